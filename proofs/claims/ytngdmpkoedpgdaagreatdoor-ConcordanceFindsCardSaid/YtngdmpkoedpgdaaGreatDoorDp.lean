/-
  An index: heads with their lines, in order: what insertion makes of it, and that there is one only. Plain laws.
-/
import Derived.Lib.Bytealg
import Derived.Test.YtngdmpkoedpgdaaGreatDoorPl
namespace Go.Ap
/-- a comparison -/
structure Cmp {κ : Type} (c : κ → κ → Int) : Prop where
  zero : ∀ {a b}, c a b = 0 ↔ a = b
  swap : ∀ {a b}, c a b < 0 ↔ 0 < c b a
  trans : ∀ {a b d}, c a b < 0 → c b d < 0 → c a d < 0
section
variable {κ : Type} {c : κ → κ → Int}
theorem Cmp.self (h : Cmp c) (a : κ) : c a a = 0 := h.zero.2 rfl
theorem Cmp.asym (h : Cmp c) {a b : κ} (h1 : c a b < 0) : ¬ c b a < 0 := fun h2 => by
  have := h.swap.1 h1
  omega
/-- one behind the other -/
def lexQ {α β : Type} (c1 : α → α → Int) (c2 : β → β → Int) (p q : α × β) : Int := if c1 p.1 q.1 = 0 then c2 p.2 q.2 else c1 p.1 q.1
theorem cmp_lex {α β : Type} {c1 : α → α → Int} {c2 : β → β → Int} (h1 : Cmp c1) (h2 : Cmp c2) : Cmp (lexQ c1 c2) where
  zero {a b} := by
    unfold lexQ
    by_cases e : c1 a.1 b.1 = 0
    · rw [if_pos e, h2.zero]
      have := h1.zero.1 e
      exact ⟨fun h => Prod.ext this h, fun h => by rw [h]⟩
    · rw [if_neg e]
      exact ⟨fun h => absurd h e, fun h => absurd (h1.zero.2 (by rw [h])) e⟩
  swap {a b} := by
    unfold lexQ
    by_cases e : c1 a.1 b.1 = 0
    · rw [if_pos e, if_pos (h1.zero.2 (h1.zero.1 e).symm)]
      exact h2.swap
    · rw [if_neg e, if_neg (fun e2 => e (h1.zero.2 (h1.zero.1 e2).symm))]
      exact h1.swap
  trans {a b d} := by
    unfold lexQ
    by_cases e : c1 a.1 b.1 = 0
    · rw [if_pos e]
      have ea := h1.zero.1 e
      rw [ea]
      by_cases e2 : c1 b.1 d.1 = 0
      · rw [if_pos e2, if_pos e2]
        exact h2.trans
      · rw [if_neg e2, if_neg e2]
        exact fun _ h => h
    · rw [if_neg e]
      by_cases e2 : c1 b.1 d.1 = 0
      · rw [if_pos e2, ← h1.zero.1 e2, if_neg e]
        exact fun h _ => h
      · rw [if_neg e2]
        intro g1 g2
        have g3 := h1.trans g1 g2
        rw [if_neg (by omega)]
        exact g3
/-- by a key that tells all -/
theorem cmp_key {α : Type} {c1 : κ → κ → Int} (h : Cmp c1) (f : α → κ) (hf : ∀ a b, f a = f b → a = b) : Cmp fun a b => c1 (f a) (f b) where
  zero {a b} := ⟨fun e => hf a b (h.zero.1 e), fun e => by rw [e]; exact h.self _⟩
  swap := h.swap
  trans := h.trans
end
/-- Go's order of strings -/
def ltS : Str → Str → Bool
  | [], [] => false
  | [], _ :: _ => true
  | _ :: _, [] => false
  | a :: r, b :: s => decide (a < b) || (decide (a = b) && ltS r s)
def cmpS (a b : Str) : Int := if ltS a b then -1 else if ltS b a then 1 else 0
theorem ltS_irr : ∀ a : Str, ltS a a = false
  | [] => rfl
  | a :: r => by simp [ltS, ltS_irr r, UInt8.lt_irrefl]
theorem ltS_asym : ∀ {a b : Str}, ltS a b = true → ltS b a = false
  | [], [], h => by simp [ltS] at h
  | [], _ :: _, _ => rfl
  | _ :: _, [], h => by simp [ltS] at h
  | a :: r, b :: s, h => by
    simp only [ltS, Bool.or_eq_true, Bool.and_eq_true, decide_eq_true_eq] at h
    simp only [ltS, Bool.or_eq_false_iff, Bool.and_eq_false_iff, decide_eq_false_iff_not]
    rcases h with h | ⟨rfl, h⟩
    · exact ⟨UInt8.lt_asymm h, .inl fun e => by subst e; exact UInt8.lt_irrefl _ h⟩
    · exact ⟨UInt8.lt_irrefl _, .inr (ltS_asym h)⟩
theorem ltS_tri : ∀ {a b : Str}, ltS a b = false → ltS b a = false → a = b
  | [], [], _, _ => rfl
  | [], _ :: _, h, _ => by simp [ltS] at h
  | _ :: _, [], _, h => by simp [ltS] at h
  | a :: r, b :: s, h, h' => by
    simp only [ltS, Bool.or_eq_false_iff, Bool.and_eq_false_iff, decide_eq_false_iff_not] at h h'
    have hab : a = b := UInt8.le_antisymm (UInt8.not_lt.1 h'.1) (UInt8.not_lt.1 h.1)
    subst hab
    rcases h.2 with h2 | h2
    · exact absurd rfl h2
    · rcases h'.2 with h3 | h3
      · exact absurd rfl h3
      · rw [ltS_tri h2 h3]
theorem ltS_trans : ∀ {a b d : Str}, ltS a b = true → ltS b d = true → ltS a d = true
  | [], [], _, h, _ => by simp [ltS] at h
  | [], _ :: _, [], _, h => by simp [ltS] at h
  | [], _ :: _, _ :: _, _, _ => rfl
  | _ :: _, [], _, h, _ => by simp [ltS] at h
  | _ :: _, _ :: _, [], _, h => by simp [ltS] at h
  | a :: r, b :: s, d :: t, h, h' => by
    simp only [ltS, Bool.or_eq_true, Bool.and_eq_true, decide_eq_true_eq] at h h' ⊢
    rcases h with h | ⟨rfl, h⟩
    · rcases h' with h' | ⟨rfl, _⟩
      · exact .inl (UInt8.lt_trans h h')
      · exact .inl h
    · rcases h' with h' | ⟨rfl, h'⟩
      · exact .inl h'
      · exact .inr ⟨rfl, ltS_trans h h'⟩
theorem cmpS_neg {a b : Str} : cmpS a b < 0 ↔ ltS a b = true := by
  unfold cmpS
  split
  · rename_i h; simp [h]
  · rename_i h
    split <;> simp [h]
theorem cmp_str : Cmp cmpS where
  zero {a b} := by
    unfold cmpS
    constructor
    · intro h
      split at h
      · omega
      · rename_i h1
        split at h
        · omega
        · rename_i h2
          exact ltS_tri (by simpa using h1) (by simpa using h2)
    · rintro rfl
      simp [ltS_irr]
  swap {a b} := by
    rw [cmpS_neg]
    unfold cmpS
    constructor
    · intro h
      rw [if_neg (by rw [ltS_asym h]; simp), if_pos h]
      omega
    · intro h
      split at h
      · omega
      · split at h
        · assumption
        · omega
  trans {a b d} h1 h2 := by
    rw [cmpS_neg] at *
    exact ltS_trans h1 h2
/-- lines with a further one -/
def withF : List Int → Int → List Int
  | [], n => [n]
  | x :: r, n => if x < n then x :: withF r n else if x = n then x :: r else n :: x :: r
section
variable {κ : Type}
/-- an index with a further line of a head -/
def addF (c : κ → κ → Int) : List (κ × List Int) → κ → Int → List (κ × List Int)
  | [], h, n => [(h, [n])]
  | p :: r, h, n => if c p.1 h < 0 then p :: addF c r h n else if c p.1 h = 0 then (p.1, withF p.2 n) :: r else (h, [n]) :: p :: r
/-- the index of entries -/
structure IsIdx (c : κ → κ → Int) (es : List (κ × Int)) (l : List (κ × List Int)) : Prop where
  asc : l.Pairwise fun p q => c p.1 q.1 < 0
  lines : ∀ p ∈ l, p.2.Pairwise (· < ·)
  some : ∀ p ∈ l, p.2 ≠ []
  all : ∀ h n, (h, n) ∈ es ↔ ∃ p ∈ l, p.1 = h ∧ n ∈ p.2
theorem withF_mem {l : List Int} {n x : Int} : x ∈ withF l n ↔ x ∈ l ∨ x = n := by
  induction l with
  | nil => simp [withF]
  | cons y r ih =>
    rw [withF]
    split
    · rw [List.mem_cons, ih, List.mem_cons, or_assoc]
    · split
      · rename_i h; subst h; simp only [List.mem_cons]; constructor
        · exact .inl
        · rintro (h | h)
          · exact h
          · exact .inl h
      · simp only [List.mem_cons]; constructor
        · rintro (h | h)
          · exact .inr h
          · exact .inl h
        · rintro (h | h)
          · exact .inr h
          · exact .inl h
theorem withF_asc {l : List Int} {n : Int} (h : l.Pairwise (· < ·)) : (withF l n).Pairwise (· < ·) := by
  induction l with
  | nil => simp [withF]
  | cons y r ih =>
    rw [List.pairwise_cons] at h
    rw [withF]
    split
    · rename_i h1
      rw [List.pairwise_cons]
      refine ⟨fun x hx => ?_, ih h.2⟩
      rcases withF_mem.1 hx with h2 | h2
      · exact h.1 x h2
      · omega
    · rename_i h1
      split
      · rw [List.pairwise_cons]; exact h
      · rename_i h2
        rw [List.pairwise_cons, List.pairwise_cons]
        refine ⟨fun x hx => ?_, h⟩
        rcases List.mem_cons.1 hx with rfl | hx
        · omega
        · have := h.1 x hx; omega
variable {c : κ → κ → Int} (hc : Cmp c)
include hc
theorem addF_all {l : List (κ × List Int)} (ha : l.Pairwise fun p q => c p.1 q.1 < 0) {h : κ} {n : Int} (g : κ) (m : Int) : (∃ p ∈ addF c l h n, p.1 = g ∧ m ∈ p.2) ↔ (∃ p ∈ l, p.1 = g ∧ m ∈ p.2) ∨ (g = h ∧ m = n) := by
  induction l with
  | nil =>
    rw [addF]
    constructor
    · rintro ⟨p, hp, rfl, hm⟩
      rw [List.mem_singleton] at hp
      subst hp
      exact .inr ⟨rfl, by simpa using hm⟩
    · rintro (⟨p, hp, _⟩ | ⟨rfl, rfl⟩)
      · cases hp
      · exact ⟨_, List.mem_singleton.2 rfl, rfl, by simp⟩
  | cons q r ih =>
    rw [List.pairwise_cons] at ha
    rw [addF]
    split
    · constructor
      · rintro ⟨p, hp, rfl, hm⟩
        rcases List.mem_cons.1 hp with rfl | hp
        · exact .inl ⟨p, List.mem_cons_self .., rfl, hm⟩
        · rcases (ih ha.2).1 ⟨p, hp, rfl, hm⟩ with ⟨p', h1, h2, h3⟩ | h1
          · exact .inl ⟨p', List.mem_cons_of_mem _ h1, h2, h3⟩
          · exact .inr h1
      · intro hx
        have : (∃ p ∈ [q], p.1 = g ∧ m ∈ p.2) ∨ ((∃ p ∈ r, p.1 = g ∧ m ∈ p.2) ∨ (g = h ∧ m = n)) := by
          rcases hx with ⟨p, hp, h1⟩ | h1
          · rcases List.mem_cons.1 hp with rfl | hp
            · exact .inl ⟨p, List.mem_singleton.2 rfl, h1⟩
            · exact .inr (.inl ⟨p, hp, h1⟩)
          · exact .inr (.inr h1)
        rcases this with ⟨p, hp, h1⟩ | h1
        · rw [List.mem_singleton] at hp
          subst hp
          exact ⟨p, List.mem_cons_self .., h1⟩
        · obtain ⟨p, hp, h2⟩ := (ih ha.2).2 h1
          exact ⟨p, List.mem_cons_of_mem _ hp, h2⟩
    · split
      · rename_i h1 h2
        have hq := hc.zero.1 h2
        constructor
        · rintro ⟨p, hp, rfl, hm⟩
          rcases List.mem_cons.1 hp with rfl | hp
          · rcases withF_mem.1 hm with h3 | h3
            · exact .inl ⟨q, List.mem_cons_self .., rfl, h3⟩
            · exact .inr ⟨hq, h3⟩
          · exact .inl ⟨p, List.mem_cons_of_mem _ hp, rfl, hm⟩
        · rintro (⟨p, hp, h3, h4⟩ | ⟨rfl, rfl⟩)
          · rcases List.mem_cons.1 hp with rfl | hp
            · exact ⟨_, List.mem_cons_self .., h3, withF_mem.2 (.inl h4)⟩
            · exact ⟨p, List.mem_cons_of_mem _ hp, h3, h4⟩
          · exact ⟨_, List.mem_cons_self .., hq, withF_mem.2 (.inr rfl)⟩
      · constructor
        · rintro ⟨p, hp, rfl, hm⟩
          rcases List.mem_cons.1 hp with rfl | hp
          · exact .inr ⟨rfl, by simpa using hm⟩
          · exact .inl ⟨p, hp, rfl, hm⟩
        · rintro (⟨p, hp, h1⟩ | ⟨rfl, rfl⟩)
          · exact ⟨p, List.mem_cons_of_mem _ hp, h1⟩
          · exact ⟨_, List.mem_cons_self .., rfl, by simp⟩
omit hc in
theorem addF_heads {l : List (κ × List Int)} {h : κ} {n : Int} : ∀ p ∈ addF c l h n, p.1 = h ∨ ∃ q ∈ l, p.1 = q.1 := by
  induction l with
  | nil =>
    intro p hp
    rw [addF, List.mem_singleton] at hp
    exact .inl (by rw [hp])
  | cons q r ih =>
    intro p hp
    rw [addF] at hp
    split at hp
    · rcases List.mem_cons.1 hp with rfl | hp
      · exact .inr ⟨p, List.mem_cons_self .., rfl⟩
      · rcases ih p hp with h1 | ⟨q', h1, h2⟩
        · exact .inl h1
        · exact .inr ⟨q', List.mem_cons_of_mem _ h1, h2⟩
    · split at hp
      · rcases List.mem_cons.1 hp with rfl | hp
        · exact .inr ⟨q, List.mem_cons_self .., rfl⟩
        · exact .inr ⟨p, List.mem_cons_of_mem _ hp, rfl⟩
      · rcases List.mem_cons.1 hp with rfl | hp
        · exact .inl rfl
        · exact .inr ⟨p, hp, rfl⟩
theorem addF_asc {l : List (κ × List Int)} (ha : l.Pairwise fun p q => c p.1 q.1 < 0) {h : κ} {n : Int} : (addF c l h n).Pairwise fun p q => c p.1 q.1 < 0 := by
  induction l with
  | nil => simp [addF]
  | cons q r ih =>
    have ha' := ha
    rw [List.pairwise_cons] at ha
    rw [addF]
    split
    · rename_i h1
      rw [List.pairwise_cons]
      refine ⟨fun p hp => ?_, ih ha.2⟩
      rcases addF_heads p hp with h2 | ⟨q', h2, h3⟩
      · rw [h2]; exact h1
      · rw [h3]; exact ha.1 q' h2
    · rename_i h1
      split
      · rw [List.pairwise_cons]
        exact ha
      · rename_i h2
        have h3 : c h q.1 < 0 := hc.swap.2 (by omega)
        rw [List.pairwise_cons]
        refine ⟨fun p hp => ?_, ha'⟩
        rcases List.mem_cons.1 hp with rfl | hp
        · exact h3
        · exact hc.trans h3 (ha.1 p hp)
omit hc in
theorem addF_lines {l : List (κ × List Int)} {h : κ} {n : Int} (hl : ∀ p ∈ l, p.2.Pairwise (· < ·)) : ∀ p ∈ addF c l h n, p.2.Pairwise (· < ·) := by
  induction l with
  | nil =>
    intro p hp
    rw [addF, List.mem_singleton] at hp
    subst hp
    simp
  | cons q r ih =>
    intro p hp
    rw [addF] at hp
    split at hp
    · rcases List.mem_cons.1 hp with rfl | hp
      · exact hl p (List.mem_cons_self ..)
      · exact ih (fun p hp => hl p (List.mem_cons_of_mem _ hp)) p hp
    · split at hp
      · rcases List.mem_cons.1 hp with rfl | hp
        · exact withF_asc (hl q (List.mem_cons_self ..))
        · exact hl p (List.mem_cons_of_mem _ hp)
      · rcases List.mem_cons.1 hp with rfl | hp
        · simp
        · exact hl p hp
omit hc in
theorem withF_some (l : List Int) (n : Int) : withF l n ≠ [] := by
  cases l with
  | nil => simp [withF]
  | cons x r => rw [withF]; split <;> (try split) <;> simp
omit hc in
theorem addF_some {l : List (κ × List Int)} {h : κ} {n : Int} (hl : ∀ p ∈ l, p.2 ≠ []) : ∀ p ∈ addF c l h n, p.2 ≠ [] := by
  induction l with
  | nil =>
    intro p hp
    rw [addF, List.mem_singleton] at hp
    subst hp
    simp
  | cons q r ih =>
    intro p hp
    rw [addF] at hp
    split at hp
    · rcases List.mem_cons.1 hp with rfl | hp
      · exact hl p (List.mem_cons_self ..)
      · exact ih (fun p hp => hl p (List.mem_cons_of_mem _ hp)) p hp
    · split at hp
      · rcases List.mem_cons.1 hp with rfl | hp
        · exact withF_some _ _
        · exact hl p (List.mem_cons_of_mem _ hp)
      · rcases List.mem_cons.1 hp with rfl | hp
        · simp
        · exact hl p hp
/-- one entry more -/
theorem IsIdx.add {es : List (κ × Int)} {l : List (κ × List Int)} (H : IsIdx c es l) (h : κ) (n : Int) : IsIdx c (es ++ [(h, n)]) (addF c l h n) where
  asc := addF_asc hc H.asc
  lines := addF_lines H.lines
  some := addF_some H.some
  all g m := by
    rw [addF_all hc H.asc, ← H.all, List.mem_append, List.mem_singleton, Prod.mk.injEq]
omit hc in
theorem asc_eq {l l' : List Int} (h : l.Pairwise (· < ·)) (h' : l'.Pairwise (· < ·)) (he : ∀ x, x ∈ l ↔ x ∈ l') : l = l' := by
  refine List.Perm.eq_of_pairwise (le := (· < ·)) (fun a b _ _ h1 h2 => by omega) h h' ?_
  refine (List.perm_ext_iff_of_nodup (h.imp fun h => by omega) (h'.imp fun h => by omega)).2 he
/-- there is one only -/
theorem IsIdx.unique {es es' : List (κ × Int)} {l l' : List (κ × List Int)} (H : IsIdx c es l) (H' : IsIdx c es' l') (he : ∀ x, x ∈ es ↔ x ∈ es') : l = l' := by
  have key : ∀ {es es' : List (κ × Int)} {l l' : List (κ × List Int)}, IsIdx c es l → IsIdx c es' l' → (∀ x, x ∈ es ↔ x ∈ es') → ∀ p ∈ l, p ∈ l' := fun {es es' l l'} H H' he p hp => by
    obtain ⟨n, r, hn⟩ : ∃ n r, p.2 = n :: r := by
      cases hp2 : p.2 with
      | nil => exact absurd hp2 (H.some p hp)
      | cons n r => exact ⟨n, r, rfl⟩
    obtain ⟨q, hq, hqp, hqn⟩ := (H'.all p.1 n).1 ((he _).1 ((H.all p.1 n).2 ⟨p, hp, rfl, by rw [hn]; simp⟩))
    have uniq : ∀ {es : List (κ × Int)} {l : List (κ × List Int)}, IsIdx c es l → ∀ p ∈ l, ∀ q ∈ l, p.1 = q.1 → p = q := fun {es l} H p hp q hq h => by
      obtain ⟨i, hi⟩ := List.getElem?_of_mem hp
      obtain ⟨j, hj⟩ := List.getElem?_of_mem hq
      obtain ⟨hil, rfl⟩ := List.getElem?_eq_some_iff.1 hi
      obtain ⟨hjl, rfl⟩ := List.getElem?_eq_some_iff.1 hj
      have hasc := List.pairwise_iff_getElem.1 H.asc
      rcases Nat.lt_trichotomy i j with hij | hij | hij
      · have := hasc i j hil hjl hij
        rw [h, hc.self] at this
        omega
      · subst hij; rfl
      · have := hasc j i hjl hil hij
        rw [h, hc.self] at this
        omega
    have : q = p := by
      refine Prod.ext hqp ?_
      refine asc_eq (H'.lines q hq) (H.lines p hp) fun x => ?_
      constructor
      · intro hx
        obtain ⟨p', hp', h1, h2⟩ := (H.all p.1 x).1 ((he _).2 ((H'.all p.1 x).2 ⟨q, hq, hqp, hx⟩))
        rw [← uniq H p' hp' p hp h1]
        exact h2
      · intro hx
        obtain ⟨q', hq', h1, h2⟩ := (H'.all p.1 x).1 ((he _).1 ((H.all p.1 x).2 ⟨p, hp, rfl, hx⟩))
        rw [← uniq H' q' hq' q hq (h1.trans hqp.symm)]
        exact h2
    exact this ▸ hq
  have nd : ∀ {es : List (κ × Int)} {l : List (κ × List Int)}, IsIdx c es l → l.Nodup := fun {es l} H => H.asc.imp fun {a b} h e => by
    subst e
    rw [hc.self] at h
    omega
  refine List.Perm.eq_of_pairwise (le := fun p q => c p.1 q.1 < 0) (fun a b _ _ h1 h2 => absurd h2 (hc.asym h1)) H.asc H'.asc ?_
  exact (List.perm_ext_iff_of_nodup (nd H) (nd H')).2 fun p => ⟨key H H' he p, key H' H (fun x => (he x).symm) p⟩
end
section
variable (mk : UInt8 → Bool)
/-- small letters -/
def lowC (c : UInt8) : UInt8 := if 65 ≤ c.toNat ∧ c.toNat ≤ 90 then c + 32 else c
def foldS (s : Str) : Str := s.map lowC
/-- without marks -/
def plainM (s : Str) : Str := s.filter fun c => !mk c
def dictM (a b : Str) : Int :=
  if cmpS (foldS (plainM mk a)) (foldS (plainM mk b)) = 0 then if cmpS (plainM mk a) (plainM mk b) = 0 then cmpS a b else cmpS (plainM mk a) (plainM mk b) else cmpS (foldS (plainM mk a)) (foldS (plainM mk b))
theorem dict_eq (a b : Str) : dictM mk a b = lexQ cmpS (lexQ cmpS cmpS) (foldS (plainM mk a), plainM mk a, a) (foldS (plainM mk b), plainM mk b, b) := rfl
theorem cmp_dict : Cmp (dictM mk) := by
  have h := cmp_key (cmp_lex cmp_str (cmp_lex cmp_str cmp_str)) (fun a : Str => (foldS (plainM mk a), plainM mk a, a)) (fun a b h => (Prod.mk.inj (Prod.mk.inj h).2).2)
  exact h
/-- the order of heads: word, section -/
def headM (p q : Str × Str) : Int := lexQ (dictM mk) cmpS p q
theorem cmp_head : Cmp (headM mk) := cmp_lex (cmp_dict mk) cmp_str
/-- a posting -/
abbrev Post := (Str × Str) × List Int
/-- the index of entries, by insertion -/
def idxM (es : List ((Str × Str) × Int)) : List Post := es.foldl (fun l e => addF (headM mk) l e.1 e.2) []
theorem idx_is (es : List ((Str × Str) × Int)) : IsIdx (headM mk) es (idxM mk es) := by
  have key : ∀ (es pre : List ((Str × Str) × Int)) (l : List Post), IsIdx (headM mk) pre l → IsIdx (headM mk) (pre ++ es) (es.foldl (fun l e => addF (headM mk) l e.1 e.2) l) := fun es => by
    induction es with
    | nil => intro pre l h; rw [List.append_nil]; exact h
    | cons e r ih =>
      intro pre l h
      have := ih (pre ++ [(e.1, e.2)]) _ (h.add (cmp_head mk) e.1 e.2)
      rw [List.append_assoc] at this
      exact this
  have h0 : IsIdx (headM mk) [] ([] : List Post) := ⟨.nil, fun _ hp => absurd hp List.not_mem_nil, fun _ hp => absurd hp List.not_mem_nil, fun h n => by simp⟩
  exact key es [] [] h0
theorem idx_succ (es : List ((Str × Str) × Int)) (e : (Str × Str) × Int) : idxM mk (es ++ [e]) = addF (headM mk) (idxM mk es) e.1 e.2 := by
  simp [idxM, List.foldl_append]
/-- how many entries: each once -/
theorem idx_count (es : List ((Str × Str) × Int)) : (idxM mk es).length ≤ es.length := by
  have key : ∀ (es : List ((Str × Str) × Int)) (l : List Post), (es.foldl (fun l e => addF (headM mk) l e.1 e.2) l).length ≤ l.length + es.length := fun es => by
    induction es with
    | nil => intro l; simp
    | cons e r ih =>
      intro l
      have h1 : (addF (headM mk) l e.1 e.2).length ≤ l.length + 1 := by
        induction l with
        | nil => simp [addF]
        | cons p q ihl =>
          rw [addF]
          split
          · simp only [List.length_cons]; omega
          · split <;> simp
      have h2 := ih (addF (headM mk) l e.1 e.2)
      simp only [List.foldl_cons, List.length_cons]
      omega
  have := key es []
  simpa [idxM] using this
end

/-- the model's order of strings -/
theorem bl_eq : ∀ a b : Str, Op.bytesLess a b = ltS a b
  | [], [] => rfl
  | _ :: _, [] => rfl
  | [], _ :: _ => rfl
  | a :: r, b :: s => by
    rw [Op.bytesLess, ltS, bl_eq r s]
    rfl
theorem gt_eq (a b : Str) : (!(Op.bytesLess a b || a == b)) = ltS b a := by
  rw [bl_eq]
  cases h : ltS a b
  · by_cases e : a = b
    · subst e; simp [ltS_irr]
    · cases h2 : ltS b a
      · exact absurd (ltS_tri h h2) e
      · simp [e]
  · rw [ltS_asym h]; rfl
theorem cb_eq : ∀ a b : Str, Lib.compareBytes a b = cmpS a b
  | [], [] => by simp [Lib.compareBytes, cmpS, ltS]
  | _ :: _, [] => by simp [Lib.compareBytes, cmpS, ltS]
  | [], _ :: _ => by simp [Lib.compareBytes, cmpS, ltS]
  | a :: r, b :: s => by
    have ih := cb_eq r s
    rw [Lib.compareBytes, ih]
    unfold cmpS
    by_cases h1 : a < b
    · simp [ltS, h1]
    · by_cases h2 : b < a
      · have hne : a ≠ b := fun e => by subst e; exact h1 h2
        simp [ltS, h1, h2, hne]
      · obtain rfl : a = b := UInt8.le_antisymm (UInt8.not_lt.1 h2) (UInt8.not_lt.1 h1)
        simp [ltS, h1]
end Go.Ap
