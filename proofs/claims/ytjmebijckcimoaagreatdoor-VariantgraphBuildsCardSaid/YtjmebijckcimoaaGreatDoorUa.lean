import Derived.Lib.Bytealg
import Derived.Test.YtjmebijckcimoaaGreatDoorPl
import Derived.OrdersHeld
import Derived.OrdersIn
import Derived.StillTail
import Derived.Deep.RegionHeld3
import Derived.RangeFuncBox
import Derived.Maps.AppendAt
import Derived.Laws.OwnMore
import Derived.Deep.AppendLies



namespace Go.Ap
/-- a comparison -/
structure Cmp {κ : Type} (c : κ → κ → Int) : Prop where
  zero : ∀ {a b}, c a b = 0 ↔ a = b
  swap : ∀ {a b}, c a b < 0 ↔ 0 < c b a
  trans : ∀ {a b d}, c a b < 0 → c b d < 0 → c a d < 0
section
variable {κ : Type} {c : κ → κ → Int}
theorem Cmp.self (h : Cmp c) (a : κ) : c a a = 0 := h.zero.2 rfl
theorem Cmp.asym (h : Cmp c) {a b : κ} (h1 : c a b < 0) : ¬ c b a < 0 := fun h2 => by
  have := h.swap.1 h1
  omega
/-- one behind the other -/
def lexQ {α β : Type} (c1 : α → α → Int) (c2 : β → β → Int) (p q : α × β) : Int := if c1 p.1 q.1 = 0 then c2 p.2 q.2 else c1 p.1 q.1
theorem cmp_lex {α β : Type} {c1 : α → α → Int} {c2 : β → β → Int} (h1 : Cmp c1) (h2 : Cmp c2) : Cmp (lexQ c1 c2) where
  zero {a b} := by
    unfold lexQ
    by_cases e : c1 a.1 b.1 = 0
    · rw [if_pos e, h2.zero]
      have := h1.zero.1 e
      exact ⟨fun h => Prod.ext this h, fun h => by rw [h]⟩
    · rw [if_neg e]
      exact ⟨fun h => absurd h e, fun h => absurd (h1.zero.2 (by rw [h])) e⟩
  swap {a b} := by
    unfold lexQ
    by_cases e : c1 a.1 b.1 = 0
    · rw [if_pos e, if_pos (h1.zero.2 (h1.zero.1 e).symm)]
      exact h2.swap
    · rw [if_neg e, if_neg (fun e2 => e (h1.zero.2 (h1.zero.1 e2).symm))]
      exact h1.swap
  trans {a b d} := by
    unfold lexQ
    by_cases e : c1 a.1 b.1 = 0
    · rw [if_pos e]
      have ea := h1.zero.1 e
      rw [ea]
      by_cases e2 : c1 b.1 d.1 = 0
      · rw [if_pos e2, if_pos e2]
        exact h2.trans
      · rw [if_neg e2, if_neg e2]
        exact fun _ h => h
    · rw [if_neg e]
      by_cases e2 : c1 b.1 d.1 = 0
      · rw [if_pos e2, ← h1.zero.1 e2, if_neg e]
        exact fun h _ => h
      · rw [if_neg e2]
        intro g1 g2
        have g3 := h1.trans g1 g2
        rw [if_neg (by omega)]
        exact g3
end
/-- lines with a further one -/
def withF : List Int → Int → List Int
  | [], n => [n]
  | x :: r, n => if x < n then x :: withF r n else if x = n then x :: r else n :: x :: r
section
variable {κ : Type}
/-- an index with a further line of a head -/
def addF (c : κ → κ → Int) : List (κ × List Int) → κ → Int → List (κ × List Int)
  | [], h, n => [(h, [n])]
  | p :: r, h, n => if c p.1 h < 0 then p :: addF c r h n else if c p.1 h = 0 then (p.1, withF p.2 n) :: r else (h, [n]) :: p :: r
/-- the index of entries -/
structure IsIdx (c : κ → κ → Int) (es : List (κ × Int)) (l : List (κ × List Int)) : Prop where
  asc : l.Pairwise fun p q => c p.1 q.1 < 0
  lines : ∀ p ∈ l, p.2.Pairwise (· < ·)
  some : ∀ p ∈ l, p.2 ≠ []
  all : ∀ h n, (h, n) ∈ es ↔ ∃ p ∈ l, p.1 = h ∧ n ∈ p.2
theorem withF_mem {l : List Int} {n x : Int} : x ∈ withF l n ↔ x ∈ l ∨ x = n := by
  induction l with
  | nil => simp [withF]
  | cons y r ih =>
    rw [withF]
    split
    · rw [List.mem_cons, ih, List.mem_cons, or_assoc]
    · split
      · rename_i h; subst h; simp only [List.mem_cons]; constructor
        · exact .inl
        · rintro (h | h)
          · exact h
          · exact .inl h
      · simp only [List.mem_cons]; constructor
        · rintro (h | h)
          · exact .inr h
          · exact .inl h
        · rintro (h | h)
          · exact .inr h
          · exact .inl h
theorem withF_asc {l : List Int} {n : Int} (h : l.Pairwise (· < ·)) : (withF l n).Pairwise (· < ·) := by
  induction l with
  | nil => simp [withF]
  | cons y r ih =>
    rw [List.pairwise_cons] at h
    rw [withF]
    split
    · rename_i h1
      rw [List.pairwise_cons]
      refine ⟨fun x hx => ?_, ih h.2⟩
      rcases withF_mem.1 hx with h2 | h2
      · exact h.1 x h2
      · omega
    · rename_i h1
      split
      · rw [List.pairwise_cons]; exact h
      · rename_i h2
        rw [List.pairwise_cons, List.pairwise_cons]
        refine ⟨fun x hx => ?_, h⟩
        rcases List.mem_cons.1 hx with rfl | hx
        · omega
        · have := h.1 x hx; omega
variable {c : κ → κ → Int} (hc : Cmp c)
include hc
theorem addF_all {l : List (κ × List Int)} (ha : l.Pairwise fun p q => c p.1 q.1 < 0) {h : κ} {n : Int} (g : κ) (m : Int) : (∃ p ∈ addF c l h n, p.1 = g ∧ m ∈ p.2) ↔ (∃ p ∈ l, p.1 = g ∧ m ∈ p.2) ∨ (g = h ∧ m = n) := by
  induction l with
  | nil =>
    rw [addF]
    constructor
    · rintro ⟨p, hp, rfl, hm⟩
      rw [List.mem_singleton] at hp
      subst hp
      exact .inr ⟨rfl, by simpa using hm⟩
    · rintro (⟨p, hp, _⟩ | ⟨rfl, rfl⟩)
      · cases hp
      · exact ⟨_, List.mem_singleton.2 rfl, rfl, by simp⟩
  | cons q r ih =>
    rw [List.pairwise_cons] at ha
    rw [addF]
    split
    · constructor
      · rintro ⟨p, hp, rfl, hm⟩
        rcases List.mem_cons.1 hp with rfl | hp
        · exact .inl ⟨p, List.mem_cons_self .., rfl, hm⟩
        · rcases (ih ha.2).1 ⟨p, hp, rfl, hm⟩ with ⟨p', h1, h2, h3⟩ | h1
          · exact .inl ⟨p', List.mem_cons_of_mem _ h1, h2, h3⟩
          · exact .inr h1
      · intro hx
        have : (∃ p ∈ [q], p.1 = g ∧ m ∈ p.2) ∨ ((∃ p ∈ r, p.1 = g ∧ m ∈ p.2) ∨ (g = h ∧ m = n)) := by
          rcases hx with ⟨p, hp, h1⟩ | h1
          · rcases List.mem_cons.1 hp with rfl | hp
            · exact .inl ⟨p, List.mem_singleton.2 rfl, h1⟩
            · exact .inr (.inl ⟨p, hp, h1⟩)
          · exact .inr (.inr h1)
        rcases this with ⟨p, hp, h1⟩ | h1
        · rw [List.mem_singleton] at hp
          subst hp
          exact ⟨p, List.mem_cons_self .., h1⟩
        · obtain ⟨p, hp, h2⟩ := (ih ha.2).2 h1
          exact ⟨p, List.mem_cons_of_mem _ hp, h2⟩
    · split
      · rename_i h1 h2
        have hq := hc.zero.1 h2
        constructor
        · rintro ⟨p, hp, rfl, hm⟩
          rcases List.mem_cons.1 hp with rfl | hp
          · rcases withF_mem.1 hm with h3 | h3
            · exact .inl ⟨q, List.mem_cons_self .., rfl, h3⟩
            · exact .inr ⟨hq, h3⟩
          · exact .inl ⟨p, List.mem_cons_of_mem _ hp, rfl, hm⟩
        · rintro (⟨p, hp, h3, h4⟩ | ⟨rfl, rfl⟩)
          · rcases List.mem_cons.1 hp with rfl | hp
            · exact ⟨_, List.mem_cons_self .., h3, withF_mem.2 (.inl h4)⟩
            · exact ⟨p, List.mem_cons_of_mem _ hp, h3, h4⟩
          · exact ⟨_, List.mem_cons_self .., hq, withF_mem.2 (.inr rfl)⟩
      · constructor
        · rintro ⟨p, hp, rfl, hm⟩
          rcases List.mem_cons.1 hp with rfl | hp
          · exact .inr ⟨rfl, by simpa using hm⟩
          · exact .inl ⟨p, hp, rfl, hm⟩
        · rintro (⟨p, hp, h1⟩ | ⟨rfl, rfl⟩)
          · exact ⟨p, List.mem_cons_of_mem _ hp, h1⟩
          · exact ⟨_, List.mem_cons_self .., rfl, by simp⟩
omit hc in
theorem addF_heads {l : List (κ × List Int)} {h : κ} {n : Int} : ∀ p ∈ addF c l h n, p.1 = h ∨ ∃ q ∈ l, p.1 = q.1 := by
  induction l with
  | nil =>
    intro p hp
    rw [addF, List.mem_singleton] at hp
    exact .inl (by rw [hp])
  | cons q r ih =>
    intro p hp
    rw [addF] at hp
    split at hp
    · rcases List.mem_cons.1 hp with rfl | hp
      · exact .inr ⟨p, List.mem_cons_self .., rfl⟩
      · rcases ih p hp with h1 | ⟨q', h1, h2⟩
        · exact .inl h1
        · exact .inr ⟨q', List.mem_cons_of_mem _ h1, h2⟩
    · split at hp
      · rcases List.mem_cons.1 hp with rfl | hp
        · exact .inr ⟨q, List.mem_cons_self .., rfl⟩
        · exact .inr ⟨p, List.mem_cons_of_mem _ hp, rfl⟩
      · rcases List.mem_cons.1 hp with rfl | hp
        · exact .inl rfl
        · exact .inr ⟨p, hp, rfl⟩
theorem addF_asc {l : List (κ × List Int)} (ha : l.Pairwise fun p q => c p.1 q.1 < 0) {h : κ} {n : Int} : (addF c l h n).Pairwise fun p q => c p.1 q.1 < 0 := by
  induction l with
  | nil => simp [addF]
  | cons q r ih =>
    have ha' := ha
    rw [List.pairwise_cons] at ha
    rw [addF]
    split
    · rename_i h1
      rw [List.pairwise_cons]
      refine ⟨fun p hp => ?_, ih ha.2⟩
      rcases addF_heads p hp with h2 | ⟨q', h2, h3⟩
      · rw [h2]; exact h1
      · rw [h3]; exact ha.1 q' h2
    · rename_i h1
      split
      · rw [List.pairwise_cons]
        exact ha
      · rename_i h2
        have h3 : c h q.1 < 0 := hc.swap.2 (by omega)
        rw [List.pairwise_cons]
        refine ⟨fun p hp => ?_, ha'⟩
        rcases List.mem_cons.1 hp with rfl | hp
        · exact h3
        · exact hc.trans h3 (ha.1 p hp)
omit hc in
theorem addF_lines {l : List (κ × List Int)} {h : κ} {n : Int} (hl : ∀ p ∈ l, p.2.Pairwise (· < ·)) : ∀ p ∈ addF c l h n, p.2.Pairwise (· < ·) := by
  induction l with
  | nil =>
    intro p hp
    rw [addF, List.mem_singleton] at hp
    subst hp
    simp
  | cons q r ih =>
    intro p hp
    rw [addF] at hp
    split at hp
    · rcases List.mem_cons.1 hp with rfl | hp
      · exact hl p (List.mem_cons_self ..)
      · exact ih (fun p hp => hl p (List.mem_cons_of_mem _ hp)) p hp
    · split at hp
      · rcases List.mem_cons.1 hp with rfl | hp
        · exact withF_asc (hl q (List.mem_cons_self ..))
        · exact hl p (List.mem_cons_of_mem _ hp)
      · rcases List.mem_cons.1 hp with rfl | hp
        · simp
        · exact hl p hp
omit hc in
theorem withF_some (l : List Int) (n : Int) : withF l n ≠ [] := by
  cases l with
  | nil => simp [withF]
  | cons x r => rw [withF]; split <;> (try split) <;> simp
omit hc in
theorem addF_some {l : List (κ × List Int)} {h : κ} {n : Int} (hl : ∀ p ∈ l, p.2 ≠ []) : ∀ p ∈ addF c l h n, p.2 ≠ [] := by
  induction l with
  | nil =>
    intro p hp
    rw [addF, List.mem_singleton] at hp
    subst hp
    simp
  | cons q r ih =>
    intro p hp
    rw [addF] at hp
    split at hp
    · rcases List.mem_cons.1 hp with rfl | hp
      · exact hl p (List.mem_cons_self ..)
      · exact ih (fun p hp => hl p (List.mem_cons_of_mem _ hp)) p hp
    · split at hp
      · rcases List.mem_cons.1 hp with rfl | hp
        · exact withF_some _ _
        · exact hl p (List.mem_cons_of_mem _ hp)
      · rcases List.mem_cons.1 hp with rfl | hp
        · simp
        · exact hl p hp
/-- one entry more -/
theorem IsIdx.add {es : List (κ × Int)} {l : List (κ × List Int)} (H : IsIdx c es l) (h : κ) (n : Int) : IsIdx c (es ++ [(h, n)]) (addF c l h n) where
  asc := addF_asc hc H.asc
  lines := addF_lines H.lines
  some := addF_some H.some
  all g m := by
    rw [addF_all hc H.asc, ← H.all, List.mem_append, List.mem_singleton, Prod.mk.injEq]
omit hc in
theorem asc_eq {l l' : List Int} (h : l.Pairwise (· < ·)) (h' : l'.Pairwise (· < ·)) (he : ∀ x, x ∈ l ↔ x ∈ l') : l = l' := by
  refine List.Perm.eq_of_pairwise (le := (· < ·)) (fun a b _ _ h1 h2 => by omega) h h' ?_
  refine (List.perm_ext_iff_of_nodup (h.imp fun h => by omega) (h'.imp fun h => by omega)).2 he
/-- there is one only -/
theorem IsIdx.unique {es es' : List (κ × Int)} {l l' : List (κ × List Int)} (H : IsIdx c es l) (H' : IsIdx c es' l') (he : ∀ x, x ∈ es ↔ x ∈ es') : l = l' := by
  have key : ∀ {es es' : List (κ × Int)} {l l' : List (κ × List Int)}, IsIdx c es l → IsIdx c es' l' → (∀ x, x ∈ es ↔ x ∈ es') → ∀ p ∈ l, p ∈ l' := fun {es es' l l'} H H' he p hp => by
    obtain ⟨n, r, hn⟩ : ∃ n r, p.2 = n :: r := by
      cases hp2 : p.2 with
      | nil => exact absurd hp2 (H.some p hp)
      | cons n r => exact ⟨n, r, rfl⟩
    obtain ⟨q, hq, hqp, hqn⟩ := (H'.all p.1 n).1 ((he _).1 ((H.all p.1 n).2 ⟨p, hp, rfl, by rw [hn]; simp⟩))
    have uniq : ∀ {es : List (κ × Int)} {l : List (κ × List Int)}, IsIdx c es l → ∀ p ∈ l, ∀ q ∈ l, p.1 = q.1 → p = q := fun {es l} H p hp q hq h => by
      obtain ⟨i, hi⟩ := List.getElem?_of_mem hp
      obtain ⟨j, hj⟩ := List.getElem?_of_mem hq
      obtain ⟨hil, rfl⟩ := List.getElem?_eq_some_iff.1 hi
      obtain ⟨hjl, rfl⟩ := List.getElem?_eq_some_iff.1 hj
      have hasc := List.pairwise_iff_getElem.1 H.asc
      rcases Nat.lt_trichotomy i j with hij | hij | hij
      · have := hasc i j hil hjl hij
        rw [h, hc.self] at this
        omega
      · subst hij; rfl
      · have := hasc j i hjl hil hij
        rw [h, hc.self] at this
        omega
    have : q = p := by
      refine Prod.ext hqp ?_
      refine asc_eq (H'.lines q hq) (H.lines p hp) fun x => ?_
      constructor
      · intro hx
        obtain ⟨p', hp', h1, h2⟩ := (H.all p.1 x).1 ((he _).2 ((H'.all p.1 x).2 ⟨q, hq, hqp, hx⟩))
        rw [← uniq H p' hp' p hp h1]
        exact h2
      · intro hx
        obtain ⟨q', hq', h1, h2⟩ := (H'.all p.1 x).1 ((he _).1 ((H.all p.1 x).2 ⟨p, hp, rfl, hx⟩))
        rw [← uniq H' q' hq' q hq (h1.trans hqp.symm)]
        exact h2
    exact this ▸ hq
  have nd : ∀ {es : List (κ × Int)} {l : List (κ × List Int)}, IsIdx c es l → l.Nodup := fun {es l} H => H.asc.imp fun {a b} h e => by
    subst e
    rw [hc.self] at h
    omega
  refine List.Perm.eq_of_pairwise (le := fun p q => c p.1 q.1 < 0) (fun a b _ _ h1 h2 => absurd h2 (hc.asym h1)) H.asc H'.asc ?_
  exact (List.perm_ext_iff_of_nodup (nd H) (nd H')).2 fun p => ⟨key H H' he p, key H' H (fun x => (he x).symm) p⟩
end
section
variable (mk : UInt8 → Bool)
end

end Go.Ap





namespace Go.Ap
open Go Go.RowKit

section
variable {F : Fence} {P : Program} {ops : Array Oper} {md : Region.Mode} {S : World → Prop} {n : Nat} {Q : Exit → Act → World → Prop}

/-- the region holds no defer statement -/
def noDefer (ops : Array Oper) : Bool := ops.all fun o => match o.op with | .defer _ => false | _ => true
theorem noDefer_spec (h : noDefer ops = true) {j : Nat} {o : Oper} (hj : ops[j]? = some o) (c) : o.op ≠ .defer c := fun he => by
  obtain ⟨hl, rfl⟩ := Array.getElem?_eq_some_iff.1 hj
  have := (Array.all_eq_true.1 h) j hl
  rw [he] at this
  cases this
theorem semR {o : Oper} (ro : Option Nat) (a : Act) (h : ∀ c, o.op ≠ .defer c) : o.semAt ro a.eval = execOp a.eval o := Oper.semAt_eq ro a.eval o h

theorem YieldsIf.wpOpR {i : Nat} {o : Oper} {v : Value} {a : Act} (hF : ∀ f, F.fn f) (hi : ops[i]? = some o) (hd : ∀ c, o.op ≠ .defer c) (hy : YieldsIf P ops S o v a)
    {K : Act → World → Prop} {w : World} (hS : S w) (h : K (a.put o.dst v) w) : wpOpIn F n P ops Q i K a w := by
  unfold Go.wpOpIn
  simp only [hi]
  rcases hy with ⟨hw, hv⟩ | ⟨hw, rfl⟩
  · simp only [hw, if_true, Oper.wpIn]
    refine ⟨fun f _ => hF f, ?_⟩
    rw [semR F.round a hd, hv w hS, Oper.uponIn]
    exact h
  · simp only [hw, Bool.false_eq_true, if_false]
    exact ⟨fun f _ => hF f, h⟩

theorem wpOpR_put {j : Nat} {oi oj : Oper} {v : Value} (hF : ∀ f, F.fn f) (hj : ops[j]? = some oj) (hap : oi.apart ops oj = true)
    (hsi : ∀ cs b, oi.op ≠ .select cs b) (hsj : ∀ cs b, oj.op ≠ .select cs b) (hdj : ∀ c, oj.op ≠ .defer c)
    (hQ : ∀ c a w, Q (.panic c) (a.put oi.dst v) w → Q (.panic c) a w) {K : Act → World → Prop} {a : Act} {w : World}
    (hy : YieldsIf P ops S oi v a) (h : wpOpIn F n P ops Q j K (a.put oi.dst v) w) :
    wpOpIn F n P ops Q j (fun a' w' => YieldsIf P ops S oi v a' ∧ K (a'.put oi.dst v) w') a w := by
  obtain ⟨h1, h2, h3⟩ := Oper.apart_spec hap
  have keep : ∀ (a : Act), YieldsIf P ops S oi v a → ∀ u, YieldsIf P ops S oi v (a.put oj.dst u) := fun a hy u =>
    hy.of_same (execOp_put oi hsi a oj.dst u h3) (wanted_put oi a oj.dst u h3)
  have keepD : ∀ d, YieldsIf P ops S oi v { a with defers := d :: a.defers } := fun d => hy.of_same rfl rfl
  unfold wpOpIn at *
  simp only [hj] at *
  rw [wanted_put oj a oi.dst v h1] at h
  split
  · rename_i hw
    simp only [hw, if_true] at h
    unfold Oper.wpIn at *
    refine ⟨fun f _ => hF f, ?_⟩
    have h := h.2
    rw [semR F.round _ hdj, execOp_put oj hsj a oi.dst v h1] at h
    rw [semR F.round _ hdj]
    generalize (execOp a.eval oj).run P w = r at *
    cases r with
    | ok x w' =>
      cases x <;> simp only [Oper.uponIn] at h ⊢
      case value u => exact ⟨keep a hy u, by rw [← Act.put_comm a v u h2]; exact h⟩
      case skip => exact ⟨keep a hy _, by rw [← Act.put_comm a v undef h2]; exact h⟩
      case defer d =>
        refine ⟨keep _ (keepD d) _, ?_⟩
        rw [← Act.put_comm _ v undef h2, ← Act.put_defers]
        exact h
      case enter f args =>
        refine ⟨h.1, CallsIn.mono h.2 fun e w'' he => ?_⟩
        cases e with
        | returned u => exact ⟨keep a hy u, by rw [← Act.put_comm a v u h2]; exact he⟩
        | panicked c => exact hQ _ _ _ he
        | outgrown => exact he
      case row row args => exact ⟨h.1, RowsIn.mono h.2 fun u w'' he => ⟨keep a hy u, by rw [← Act.put_comm a v u h2]; exact he⟩⟩
      case round l f tmps assign body =>
        refine ⟨h.1, RoundIn.mono h.2 fun e w'' he => ?_⟩
        cases e with
        | returned u => exact ⟨keep a hy u, by rw [← Act.put_comm a v u h2]; exact he⟩
        | panicked c => exact hQ _ _ _ he
        | outgrown => exact he
    | halt x w' =>
      cases x <;> simp only [Oper.uponIn] at h ⊢
      case panic u => exact hQ _ _ _ h
  · rename_i hw
    simp only [hw] at h
    exact ⟨fun f _ => hF f, keep a hy _, by rw [← Act.put_comm a v undef h2]; exact h.2⟩

/-- whatever order is picked from here on, and S holds behind each operation ahead of m -/
def wpAnyR (F : Fence) (n : Nat) (P : Program) (md : Region.Mode) (ops : Array Oper) (Q : Exit → Act → World → Prop) (S : World → Prop) (m : Nat) : Nat → Array Bool → Act → World → Prop
  | 0, listed, a, w => Region.ready md ops listed = [] ∧ Q .normal a w
  | fuel + 1, listed, a, w =>
    (Region.ready md ops listed = [] → Q .normal a w) ∧
    ∀ i ∈ Region.ready md ops listed, wpOpIn F n P ops Q i (fun a' w' => (i < m → S w') ∧ wpAnyR F n P md ops Q S m fuel (listed.setIfInBounds i true) a' w') a w
theorem anyIn_of_R {m : Nat} : ∀ (fuel : Nat) (listed : Array Bool) (a : Act) (w : World), wpAnyR F n P md ops Q S m fuel listed a w → wpAnyIn F n P md ops Q fuel listed a w
  | 0, _, _, _, h => h
  | fuel + 1, _, _, _, h => ⟨h.1, fun i hi => wpOpIn_mono (fun a' w' h' => anyIn_of_R fuel _ a' w' h'.2) (h.2 i hi)⟩

/-- none from m on may come up while one ahead of m has not -/
def GateR (md : Region.Mode) (ops : Array Oper) (m : Nat) : Prop := ∀ listed, HeadInv md ops m listed → ∀ i, i < m → listed.getD i true = false → ∀ t, m ≤ t → t ∉ Region.ready md ops listed
theorem setInv {m k : Nat} {listed : Array Bool} (inv : HeadInv md ops m listed) (hr : k ∈ Region.ready md ops listed) (hk : k < m) : HeadInv md ops m (listed.setIfInBounds k true) := inv.set hr hk

theorem wpAnyR_first {m i : Nat} {oi : Oper} {v : Value} (hF : ∀ f, F.fn f) (hi : ops[i]? = some oi) (hsel : ∀ (j : Nat) (o : Oper) cs b, ops[j]? = some o → o.op ≠ .select cs b)
    (hdef : ∀ (j : Nat) (o : Oper) c, ops[j]? = some o → o.op ≠ .defer c) (gate : GateR md ops m) (hin : i < m)
    (hQ : ∀ c a w, Q (.panic c) (a.put oi.dst v) w → Q (.panic c) a w) :
    ∀ (fuel : Nat) (listed : Array Bool) (a : Act) (w : World), HeadInv md ops m listed →
      (∀ j oj, ops[j]? = some oj → j ≠ i → listed.getD j true = false → (∀ e ∈ oj.after, Region.binds md e = true → e.on ≠ i) → oi.apart ops oj = true) →
      i ∈ Region.ready md ops listed → YieldsIf P ops S oi v a → S w →
      wpAnyR F n P md ops Q S m fuel (listed.setIfInBounds i true) (a.put oi.dst v) w → wpAnyR F n P md ops Q S m (fuel + 1) listed a w := by
  intro fuel
  induction fuel with
  | zero =>
    intro listed a w _ _ hr hy hS H
    refine ⟨fun h => (by rw [h] at hr; cases hr), fun j hj => ?_⟩
    by_cases hji : j = i
    · subst hji; exact YieldsIf.wpOpR hF hi (fun c => hdef _ _ c hi) hy hS ⟨fun _ => hS, H⟩
    · have := ready_mono hj hji
      rw [H.1] at this
      cases this
  | succ fuel ih =>
    intro listed a w inv hfree hr hy hS H
    refine ⟨fun h => (by rw [h] at hr; cases hr), fun j hj => ?_⟩
    have hjm : j < m := by
      rcases Nat.lt_or_ge j m with h | h
      · exact h
      · exact absurd hj (gate listed inv i hin (mem_ready.1 hr).1 j h)
    by_cases hji : j = i
    · subst hji; exact YieldsIf.wpOpR hF hi (fun c => hdef _ _ c hi) hy hS ⟨fun _ => hS, H⟩
    · have h1 := H.2 j (ready_mono hj hji)
      obtain ⟨hjun, oj, hoj, hall⟩ := mem_ready.1 hj
      have hnot : ∀ e ∈ oj.after, Region.binds md e = true → e.on ≠ i := fun e he hb heq => by
        have h1 := hall e he hb
        have h0 := (mem_ready.1 hr).1
        rw [heq] at h1
        rcases Nat.lt_or_ge i listed.size with h' | h'
        · simp [h'] at h0 h1; rw [h0] at h1; cases h1
        · simp [Array.getElem?_eq_none h'] at h1
      have h2 := wpOpR_put hF hoj (hfree j oj hoj hji hjun hnot) (fun cs b => hsel i oi cs b hi) (fun cs b => hsel j oj cs b hoj) (fun c => hdef j oj c hoj) hQ hy h1
      have hfree' : ∀ k ok, ops[k]? = some ok → k ≠ i → (listed.setIfInBounds j true).getD k true = false →
          (∀ e ∈ ok.after, Region.binds md e = true → e.on ≠ i) → oi.apart ops ok = true := fun k ok hk hki hun hno => by
        refine hfree k ok hk hki ?_ hno
        by_cases hjk : j = k
        · subst hjk; exact hjun
        · rw [getD_set_ne true hjk] at hun; exact hun
      refine wpOpIn_mono (fun a' w' h3 => ⟨h3.2.1, ih (listed.setIfInBounds j true) a' w' (setInv inv hj hjm) hfree' (ready_mono hr (Ne.symm hji)) h3.1 (h3.2.1 hjm) ?_⟩) h2
      rw [Array.setIfInBounds_comm _ _ hji]
      exact h3.2.2

theorem getD_inR {listed : Array Bool} {i : Nat} (h : i < listed.size) (hl : listed.getD i false = false) : listed.getD i true = false := by
  simp [h] at hl ⊢; exact hl
theorem inv_start {m : Nat} : HeadInv md ops m (Array.replicate ops.size false) := by
  refine ⟨by simp, fun j oj hj hl => ?_, fun t _ hts => ?_⟩
  · simp [Array.getD] at hl
  · simp [Array.getD, hts]
end
end Go.Ap



namespace Go.Ap
open Go Go.RowKit
section
variable {P : Program} {ops : Array Oper} {S : World → Prop}
end
end Go.Ap
namespace Go.Ap
open Go Go.RowKit
theorem wanted_gd {ops : Array Oper} {tmps : Array Value} {o oj : Oper} {j t : Nat} {b c : Bool} (hg : o.guard = some (j, c)) (hj : ops[j]? = some oj) (hd : oj.dst = some t) (hv : tmps[t]? = some (.bool b)) : Region.wanted o (yielded ops tmps) = (b == c) := by
  unfold Region.wanted
  rw [hg]
  simp only [yielded, hj, Option.bind_some, hd, hv]
  rfl
theorem wanted_un {ops : Array Oper} {tmps : Array Value} {o oj : Oper} {j t : Nat} {c : Bool} (hg : o.guard = some (j, c)) (hj : ops[j]? = some oj) (hd : oj.dst = some t) (hv : tmps[t]? = some undef) : Region.wanted o (yielded ops tmps) = false := by
  unfold Region.wanted
  rw [hg]
  simp only [yielded, hj, Option.bind_some, hd, hv]
  rfl
section
variable {P : Program} {ops : Array Oper} {S : World → Prop} {K : Act → Prop} {i j t d : Nat} {is : List Nat} {oi oj : Oper} {b c : Bool} {v : Value} {a : Act}
theorem put_some (hd : oi.dst = some d) (v : Value) (a : Act) : a.put oi.dst v = { a with tmps := a.tmps.setIfInBounds d v } := by rw [hd]; rfl
end
end Go.Ap


namespace Go.Ap
open Go Go.RowKit
/-- a plan for the operations of a region -/
inductive Pln where
  | fin
  | take (i : Nat) (r : Pln)
  | one (i : Nat) (r : Pln)
  | two (i j : Nat) (r s : Pln)
def Pln.len : Pln → Nat
  | .fin => 0
  | .take _ r => r.len + 1
  | .one _ r => r.len + 1
  | .two _ _ r _ => r.len + 1
section
variable {F : Fence} {P : Program} {ops : Array Oper} {md : Region.Mode} {S : World → Prop} {n : Nat} {Q : Exit → Act → World → Prop}
def wpPlanR (F : Fence) (n : Nat) (P : Program) (ops : Array Oper) (Q : Exit → Act → World → Prop) (S : World → Prop) : Pln → Act → World → Prop
  | .fin, a, w => Q .normal a w
  | .take i r, a, w => ∃ oi v, ops[i]? = some oi ∧ YieldsIf P ops S oi v a ∧ wpPlanR F n P ops Q S r (a.put oi.dst v) w
  | .one i r, a, w => wpOpIn F n P ops Q i (fun a' w' => S w' ∧ wpPlanR F n P ops Q S r a' w') a w
  | .two i j r s, a, w => wpOpIn F n P ops Q i (fun a' w' => S w' ∧ wpPlanR F n P ops Q S r a' w') a w ∧ wpOpIn F n P ops Q j (fun a' w' => S w' ∧ wpPlanR F n P ops Q S s a' w') a w
def planB (md : Region.Mode) (ops : Array Oper) : Pln → Array Bool → Bool
  | .fin, l => (Region.ready md ops l).isEmpty
  | .take i r, l => (Region.ready md ops l).contains i && Region.free md ops l i && planB md ops r (l.setIfInBounds i true)
  | .one i r, l => decide (Region.ready md ops l = [i]) && planB md ops r (l.setIfInBounds i true)
  | .two i j r s, l => decide (Region.ready md ops l = [i, j]) && planB md ops r (l.setIfInBounds i true) && planB md ops s (l.setIfInBounds j true) && decide (r.len = s.len)
theorem gate_all : GateR md ops ops.size := fun _ _ _ _ _ t ht hr => by
  obtain ⟨_, ot, hot, _⟩ := mem_ready.1 hr
  have := (Array.getElem?_eq_some_iff.1 hot).1
  omega
theorem ready_lt {listed : Array Bool} {j : Nat} (h : j ∈ Region.ready md ops listed) : j < ops.size := by
  obtain ⟨_, ot, hot, _⟩ := mem_ready.1 h
  exact (Array.getElem?_eq_some_iff.1 hot).1
theorem wpAnyR_plan (hF : ∀ f, F.fn f) (hsel : Region.noSelect ops = true) (hdef : noDefer ops = true) (hQ : ∀ d v c a w, Q (.panic c) (a.put d v) w → Q (.panic c) a w) :
    ∀ (p : Pln) (listed : Array Bool) (a : Act) (w : World), HeadInv md ops ops.size listed → planB md ops p listed = true → S w → wpPlanR F n P ops Q S p a w → wpAnyR F n P md ops Q S ops.size p.len listed a w
  | .fin, listed, a, w, _, hB, _, h => ⟨by simpa [planB] using hB, h⟩
  | .take i r, listed, a, w, inv, hB, hS, ⟨oi, v, ho, hy, h⟩ => by
    simp only [planB, Bool.and_eq_true] at hB
    obtain ⟨⟨hr, hf⟩, hB'⟩ := hB
    have hr' : i ∈ Region.ready md ops listed := by simpa using hr
    have him : i < ops.size := (Array.getElem?_eq_some_iff.1 ho).1
    exact wpAnyR_first hF ho (Region.noSelect_spec hsel) (fun j o c hj => noDefer_spec hdef hj c) gate_all him (fun c a w => hQ _ _ c a w) r.len listed a w inv (Region.free_spec ho hf) hr' hy hS
      (wpAnyR_plan hF hsel hdef hQ r _ _ _ (setInv inv hr' him) hB' hS h)
  | .one i r, listed, a, w, inv, hB, hS, h => by
    simp only [planB, Bool.and_eq_true, decide_eq_true_eq] at hB
    refine ⟨fun h0 => (by rw [hB.1] at h0; cases h0), fun j hj => ?_⟩
    have hj' := hj
    rw [hB.1] at hj
    have hji : j = i := by simpa using hj
    subst hji
    exact wpOpIn_mono (fun a' w' h' => ⟨fun _ => h'.1, wpAnyR_plan hF hsel hdef hQ r _ a' w' (setInv inv hj' (ready_lt hj')) hB.2 h'.1 h'.2⟩) h
  | .two i j r s, listed, a, w, inv, hB, hS, h => by
    simp only [planB, Bool.and_eq_true, decide_eq_true_eq] at hB
    obtain ⟨⟨⟨h1, h2⟩, h3⟩, h4⟩ := hB
    refine ⟨fun h0 => (by rw [h1] at h0; cases h0), fun k hk => ?_⟩
    have hk' := hk
    rw [h1] at hk
    rcases List.mem_cons.1 hk with rfl | hk
    · exact wpOpIn_mono (fun a' w' h' => ⟨fun _ => h'.1, wpAnyR_plan hF hsel hdef hQ r _ a' w' (setInv inv hk' (ready_lt hk')) h2 h'.1 h'.2⟩) h.1
    · have hkj : k = j := by simpa using hk
      subst hkj
      refine wpOpIn_mono (fun a' w' h' => ⟨fun _ => h'.1, ?_⟩) h.2
      have := wpAnyR_plan hF hsel hdef hQ s _ a' w' (setInv inv hk' (ready_lt hk')) h3 h'.1 h'.2
      rw [← h4] at this
      exact this
def planned (ops : Array Oper) (p : Pln) : Bool := Region.noSelect ops && noDefer ops && decide (p.len = ops.size) && planB .any ops p (Array.replicate ops.size false)
theorem wpIn_region_plan {id : Nat} {a : Act} {w : World} (S : World → Prop) (p : Pln) (hF : ∀ f, F.fn f) (hm : P.follows .mixedOrders = true) (hB : planned ops p = true)
    (hQ : ∀ d v c a w, Q (.panic c) (a.put d v) w → Q (.panic c) a w) (hS : S w.drew) (h : wpPlanR F n P ops Q S p a w.drew) : (Code.region id ops true).wpIn F n P Q a w := by
  simp only [planned, Bool.and_eq_true, decide_eq_true_eq] at hB
  obtain ⟨⟨⟨h1, h2⟩, h3⟩, h4⟩ := hB
  refine wpIn_region_any hm (anyIn_of_R (S := S) (m := ops.size) _ _ _ _ ?_)
  have H := wpAnyR_plan hF h1 h2 hQ p (Array.replicate ops.size false) a w.drew inv_start h4 hS h
  rw [h3] at H
  exact H
/-- the same where the post hangs on the frame at a panic: the region does not panic -/
theorem wpIn_region_planN {id : Nat} {a : Act} {w : World} (S : World → Prop) (p : Pln) (hF : ∀ f, F.fn f) (hm : P.follows .mixedOrders = true) (hB : planned ops p = true)
    (hS : S w.drew) (h : wpPlanR F n P ops (NoPanic Q) S p a w.drew) : (Code.region id ops true).wpIn F n P Q a w :=
  wpIn_mono (wpIn_region_plan (Q := NoPanic Q) S p hF hm hB (fun _ _ _ _ _ h => h.elim) hS h) NoPanic.imp
section
variable {i j t d : Nat} {r s : Pln} {oi oj : Oper} {b c : Bool} {v : Value} {a : Act} {w : World}
theorem plan_take (ho : ops[i]? = some oi) (hd : oi.dst = some d) (hw : Region.wanted oi (yielded ops a.tmps) = true) (hy : ∀ w, S w → (execOp a.eval oi).run P w = .ok (.value v) w)
    (h : wpPlanR F n P ops Q S r { a with tmps := a.tmps.setIfInBounds d v } w) : wpPlanR F n P ops Q S (.take i r) a w := ⟨oi, v, ho, .inl ⟨hw, hy⟩, by rw [put_some hd]; exact h⟩
theorem plan_one (ho : ops[i]? = some oi) (h : wpListIn F n P ops (Exit.then (fun a' w' => S w' ∧ wpPlanR F n P ops Q S r a' w') Q) [oi] a w) : wpPlanR F n P ops Q S (.one i r) a w := by
  unfold wpPlanR wpOpIn
  simp only [ho]
  exact h
theorem plan_two (hi : ops[i]? = some oi) (hj : ops[j]? = some oj) (h1 : wpListIn F n P ops (Exit.then (fun a' w' => S w' ∧ wpPlanR F n P ops Q S r a' w') Q) [oi] a w)
    (h2 : wpListIn F n P ops (Exit.then (fun a' w' => S w' ∧ wpPlanR F n P ops Q S s a' w') Q) [oj] a w) : wpPlanR F n P ops Q S (.two i j r s) a w := by
  unfold wpPlanR wpOpIn
  simp only [hi, hj]
  exact ⟨h1, h2⟩
/-- both orders end alike: what is left is proved once -/
theorem plan_two_key {K : Prop} (hi : ops[i]? = some oi) (hj : ops[j]? = some oj) (h1 : K → wpListIn F n P ops (Exit.then (fun a' w' => S w' ∧ wpPlanR F n P ops Q S r a' w') Q) [oi] a w)
    (h2 : K → wpListIn F n P ops (Exit.then (fun a' w' => S w' ∧ wpPlanR F n P ops Q S s a' w') Q) [oj] a w) (k : K) : wpPlanR F n P ops Q S (.two i j r s) a w := plan_two hi hj (h1 k) (h2 k)
theorem plan_fin (h : Q .normal a w) : wpPlanR F n P ops (NoPanic Q) S .fin a w := h
end
end
end Go.Ap






namespace Go.Ap
open Go Go.RowKit

/-- a slice of ints of the call's own -/
def OwnI (e : TypeId) (w : World) (base : Nat) (v : Value) (xs : List Int) : Prop := w.ownsRow base e 1 v xs.length (xs.map (Value.int .i64)) ∧ ∀ x ∈ xs, I64 x
section
variable {e t : TypeId} {w w' w1 : World} {base base' : Nat} {v u v' : Value} {xs : List Int}
theorem OwnI.below (h : OwnI e w base v xs) (hb : Below w.heap.size w w') : OwnI e w' base v xs := ⟨owns_below h.1 hb, h.2⟩
theorem OwnI.mono (h : OwnI e w base v xs) (hb : base' ≤ base) : OwnI e w base' v xs := ⟨owns_mono h.1 hb, h.2⟩
theorem OwnI.kept {row : Option Nat} (h : OwnI e w base v xs) (hg : w.grownBy w' row) (hne : v.ownBlock = none ∨ v.ownBlock ≠ row) : OwnI e w' base v xs := ⟨h.1.kept hg hne, h.2⟩
end
def Apart (u v : Value) : Prop := u.ownBlock = none ∨ u.ownBlock ≠ v.ownBlock
theorem OwnI.ints {w : World} {base : Nat} {v : Value} {xs : List Int} (h : OwnI 3 w base v xs) (hn : xs.length ≤ 4611686018427387903) : ∃ a c, v = .slice a xs.length c ∧ Ints w a xs.length xs := ints_of_owns h.1 h.2 hn
theorem OwnI.pushed {w w1 : World} {base : Nat} {v v' : Value} {xs : List Int} {x : Int} {tmp : Obj} (h : OwnI 3 w base v xs) (hx : I64 x) (hb : base ≤ w.heap.size) (hown : w1.ownsRow base 3 1 v' (xs.length + 1) (xs.map (Value.int .i64) ++ [.int .i64 x])) (hg : (w.alloc tmp).grownBy w1 v.ownBlock) :
    OwnI 3 w1 base v' (xs ++ [x]) ∧ Below base w w1 := by
  refine ⟨⟨by simpa using hown, fun y hy => ?_⟩, ((Below.refl base w).alloc hb tmp).grown hg (by simp; omega) (fun k hk => (h.1.lt k hk).1)⟩
  rcases List.mem_append.1 hy with h1 | h1
  · exact h.2 y h1
  · rw [List.mem_singleton] at h1; subst h1; exact hx
theorem OwnI.empty (w : World) {base : Nat} (hw : base ≤ w.heap.size) : OwnI 3 (w.alloc (.cells #[] 3)) base (.slice (some ⟨w.heap.size, 0, none⟩) 0 0) [] :=
  ⟨World.ownsRow_made w #[] 0 hw (by simp [maxLen]) rfl, fun x hx => by cases hx⟩
theorem OwnI.nil (e : TypeId) (w : World) (base : Nat) : OwnI e w base (.slice none 0 0) [] := ⟨World.ownsRow_nil _ _ _ _, by simp⟩
theorem apart_symm {a b : Value} (h : Apart a b) : Apart b a := by
  unfold Apart at h ⊢
  rcases h with h | h
  · cases hb : b.ownBlock with
    | none => exact .inl rfl
    | some k => exact .inr (by rw [h]; simp)
  · exact .inr fun e => h e.symm
section
variable {w w' w0 : World} {base n : Nat} {e : TypeId} {size : Nat} {v : Value} {xs : List Value} {row : Option Nat}
def NoCells (w : World) (row : Option Nat) : Prop := ∀ r, row = some r → ∃ o : Obj, w.heap[r]? = some o ∧ o.isCells = false
/-- a block that holds just these cells -/
def BlkK (W : World) (b : Nat) (cs : Array Value) (t : TypeId) : Prop := W.heap[b]? = some (.cells cs t (0, 0))
variable {b : Nat} {cs : Array Value} {t : TypeId}
theorem BlkK.lt (h : BlkK w b cs t) : b < w.heap.size := (Array.getElem?_eq_some_iff.1 h).1
theorem BlkK.cell (h : BlkK w b cs t) {i : Nat} {u : Value} (hu : cs[i]? = some u) : w.cell? ⟨b, i, none⟩ = some u := by
  simp only [World.cell?, show w.heap[b]? = _ from h]
  simpa using hu
theorem BlkK.below (h : BlkK w b cs t) (hb : Below w.heap.size w w') : BlkK w' b cs t := (hb.block b h.lt).trans h
theorem BlkK.keptN (h : BlkK w b cs t) (hg : w.grownBy w' row) (hr : NoCells w row) : BlkK w' b cs t := by
  refine (hg.block b h.lt fun he => ?_).trans h
  obtain ⟨o, ho, hc⟩ := hr b he.symm
  rw [show w.heap[b]? = _ from h] at ho
  cases ho
  cases hc
theorem BlkK.new (w : World) (cs : Array Value) (t : TypeId) : BlkK (w.alloc (.cells cs t)) w.heap.size cs t := heap_fresh rfl
theorem BlkK.keptE (h : BlkK w b cs t) (hg : w.grownBy w' row) (hne : some b ≠ row) : BlkK w' b cs t := (hg.block b h.lt hne).trans h
/-- a row of another type is another block -/
theorem BlkK.apart (h : BlkK w b cs t) (h' : w.ownsRow base e size v n xs) (hne : t ≠ e) : some b ≠ v.ownBlock := by
  rcases h'.2 with ⟨rfl, _⟩ | ⟨g, cap, cur, rfl, _, hgg, _⟩
  · simp [Value.ownBlock]
  · intro he
    have : b = g := by simpa [Value.ownBlock] using he
    subst this
    rw [show w.heap[b]? = _ from h] at hgg
    simp at hgg
    exact hne hgg.2
end
section
variable {W : World}
theorem BlkK.put {b : Nat} {cs : Array Value} {t : TypeId} {i : Nat} {v : Value} (h : BlkK W b cs t) : BlkK (W.setCell ⟨b, i, none⟩ v) b (cs.setIfInBounds i v) t := by
  obtain ⟨hl, he⟩ := Array.getElem?_eq_some_iff.1 (show W.heap[b]? = _ from h)
  refine Array.getElem?_eq_some_iff.2 ⟨by simpa [World.setCell] using hl, ?_⟩
  simp [World.setCell, Array.getElem_modify, he]
theorem BlkK.hard {b : Nat} {cs : Array Value} {t : TypeId} {i : Nat} (h : BlkK W b cs t) : W.frozen? ⟨b, i, none⟩ = false := by simp [World.frozen?, show W.heap[b]? = _ from h]
theorem grown_put (W : World) (b i : Nat) (v : Value) : W.grownBy (W.setCell ⟨b, i, none⟩ v) (some b) := ⟨rfl, rfl, rfl, by simp [World.setCell], fun k _ hk => Below.heap_setCell _ _ _ k fun e => hk (by rw [e])⟩
end
theorem owns_none {W : World} {base size n : Nat} {e : TypeId} {v : Value} {xs : List Value} {row : Option Nat} (h : W.ownsRow base e size v n xs) (hr : NoCells W row) : v.ownBlock = none ∨ v.ownBlock ≠ row := by
  rcases h.2 with ⟨rfl, _⟩ | ⟨g, cap, cur, rfl, _, hg, _⟩
  · exact .inl rfl
  · refine .inr fun e => ?_
    obtain ⟨o, ho, hc⟩ := hr g (e ▸ rfl)
    rw [hg] at ho
    cases ho
    cases hc
section
variable {α : Type} {e : TypeId} {P P' : Value → α → Prop} {w w' : World} {base : Nat} {v : Value} {xs : List α}
def OwnV (e : TypeId) (P : Value → α → Prop) (w : World) (base : Nat) (v : Value) (xs : List α) : Prop :=
  ∃ vs : List Value, w.ownsRow base e 1 v xs.length vs ∧ ∀ (k : Nat) (x : α), xs[k]? = some x → ∃ u, vs[k]? = some u ∧ P u x
theorem OwnV.nil (w : World) (base : Nat) : OwnV e P w base (.slice none 0 0) [] := ⟨[], World.ownsRow_nil _ _ _ _, fun k x hk => by simp at hk⟩
theorem OwnV.below (h : OwnV e P w base v xs) (hb : Below w.heap.size w w') : OwnV e P w' base v xs := by
  obtain ⟨vs, h1, h2⟩ := h
  exact ⟨vs, owns_below h1 hb, h2⟩
theorem OwnV.kept {row : Option Nat} (h : OwnV e P w base v xs) (hg : w.grownBy w' row) (hne : v.ownBlock = none ∨ v.ownBlock ≠ row) : OwnV e P w' base v xs := by
  obtain ⟨vs, h1, h2⟩ := h
  exact ⟨vs, h1.kept hg hne, h2⟩
theorem OwnV.imp (h : OwnV e P w base v xs) (hP : ∀ u x, P u x → P' u x) : OwnV e P' w base v xs := by
  obtain ⟨vs, h1, h2⟩ := h
  exact ⟨vs, h1, fun k x hk => by obtain ⟨u, hu, hp⟩ := h2 k x hk; exact ⟨u, hu, hP u x hp⟩⟩
/-- ready for one more -/
theorem OwnV.ready (h : OwnV e P w base v xs) : ∃ vs, w.ownsRow base e 1 v xs.length vs ∧ ∀ (w1 : World) (v' u : Value) (x : α), w1.ownsRow base e 1 v' (xs.length + 1) (vs ++ [u]) → P u x → OwnV e P w1 base v' (xs ++ [x]) := by
  obtain ⟨vs, h1, h2⟩ := h
  have hl : vs.length = xs.length := by have := h1.1; omega
  refine ⟨vs, h1, fun w1 v' u x ho hp => ⟨vs ++ [u], by simpa using ho, fun k y hk => ?_⟩⟩
  rw [List.getElem?_append] at hk ⊢
  rw [hl]
  split at hk
  · rename_i hlt
    rw [if_pos hlt]
    exact h2 k y hk
  · rename_i hlt
    rw [if_neg hlt]
    have hk0 : k - xs.length = 0 := by
      have := (List.getElem?_eq_some_iff.1 hk).1
      simp at this
      omega
    rw [hk0] at hk ⊢
    simp at hk
    subst hk
    exact ⟨u, rfl, hp⟩
/-- a row of strings of the call's own: the slice's shape -/
theorem OwnS.cap {xs : List Str} (h : OwnS w base v xs) (hn : xs.length ≤ 4611686018427387903) : ∃ a c, v = .slice a xs.length c ∧ StrsL w a xs.length xs ∧ xs.length ≤ c := by
  obtain ⟨a, c, rfl, hs⟩ := h.strs hn
  refine ⟨a, c, rfl, hs, ?_⟩
  rcases h.2 with ⟨he, h0⟩ | ⟨g, cap, cur, he, _, _, hr⟩
  · omega
  · cases he
    have := hr.1
    omega
end
section
variable {w w' w1 : World} {base base' : Nat} {v u : Value} {xss : List (List Int)}
/-- a slice of slices of ints, all of the call's own, no two in one block -/
def OwnTb (w : World) (base : Nat) (v : Value) (xss : List (List Int)) : Prop :=
  ∃ vs : List Value, w.ownsRow base 44 1 v xss.length vs ∧ (∀ (k : Nat) (xs : List Int), xss[k]? = some xs → ∃ u, vs[k]? = some u ∧ OwnI 3 w base u xs) ∧ vs.Pairwise Apart
theorem OwnTb.below (h : OwnTb w base v xss) (hb : Below w.heap.size w w') : OwnTb w' base v xss := by
  obtain ⟨vs, h1, h2, h3⟩ := h
  exact ⟨vs, owns_below h1 hb, fun k xs hk => by obtain ⟨u, hu, ho⟩ := h2 k xs hk; exact ⟨u, hu, ho.below hb⟩, h3⟩
theorem OwnTb.mono (h : OwnTb w base v xss) (hb : base' ≤ base) : OwnTb w base' v xss := by
  obtain ⟨vs, h1, h2, h3⟩ := h
  exact ⟨vs, owns_mono h1 hb, fun k xs hk => by obtain ⟨u, hu, ho⟩ := h2 k xs hk; exact ⟨u, hu, ho.mono hb⟩, h3⟩
theorem OwnTb.at {k : Nat} {xs : List Int} (h : OwnTb w base v xss) (hk : xss[k]? = some xs) : ∃ g cap u, v = .slice (some ⟨g, 0, none⟩) xss.length cap ∧ base ≤ g ∧ w.cell? ⟨g, k, none⟩ = some u ∧ (∀ j, w.frozen? ⟨g, j, none⟩ = false) ∧ OwnI 3 w base u xs := by
  obtain ⟨vs, h1, h2, _⟩ := h
  have hkl : k < xss.length := (List.getElem?_eq_some_iff.1 hk).1
  obtain ⟨p, hp, ho⟩ := h2 k xs hk
  rcases h1.2 with ⟨_, h0⟩ | ⟨g, cap, cur, rfl, hbg, _⟩
  · omega
  · exact ⟨g, cap, p, rfl, hbg, by rw [h1.cellAt _ (by omega)]; exact hp, fun j => h1.frozenAt j, ho⟩
theorem OwnTb.rows (h : OwnTb w base v xss) (hn : xss.length ≤ 4611686018427387903) (hm : ∀ xs ∈ xss, xs.length ≤ 4611686018427387903) : ∃ a c, v = .slice a xss.length c ∧ Rows2 w a xss.length xss := by
  obtain ⟨vs, h1, h2, _⟩ := h
  rcases h1.2 with ⟨rfl, h0⟩ | ⟨g, cap, cur, rfl, _, _, _, _, _, _⟩
  · have : xss = [] := List.eq_nil_of_length_eq_zero h0
    subst this
    exact ⟨none, 0, rfl, Sl.nil _ _⟩
  · refine ⟨_, cap, rfl, rfl, hn, fun k xs hk => ?_⟩
    obtain ⟨u, hu, ho⟩ := h2 k xs hk
    have hkl : k < xss.length := (List.getElem?_eq_some_iff.1 hk).1
    obtain ⟨a, c, rfl, hI⟩ := ho.ints (hm xs (List.mem_of_getElem? hk))
    exact ⟨g, 0, _, rfl, by rw [Nat.zero_add, h1.cellAt _ (by omega)]; exact hu, _, _, _, rfl, hI⟩
end
/-- ready for one more row -/
theorem OwnTb.ready {w w' : World} {base : Nat} {v u : Value} {xss : List (List Int)} {xs : List Int} (h : OwnTb w base v xss) (hbase : base ≤ w.heap.size) (hb : Below w.heap.size w w') (hu : OwnI 3 w' w.heap.size u xs) :
    ∃ vs, w'.ownsRow base 44 1 v xss.length vs ∧ ∀ w1 v' tmp, w1.ownsRow base 44 1 v' (xss.length + 1) (vs ++ [u]) → (w'.alloc tmp).grownBy w1 v.ownBlock → OwnTb w1 base v' (xss ++ [xs]) ∧ Below base w' w1 := by
  obtain ⟨vs, h1, h2, h3⟩ := h
  have h1' := owns_below h1 hb
  refine ⟨vs, h1', fun w1 v' tmp hown hg => ⟨⟨vs ++ [u], by simpa using hown, fun k ys hk => ?_, ?_⟩, ?_⟩⟩
  · have key : ∀ u' ys, OwnI 3 w' base u' ys → OwnI 3 w1 base u' ys := fun u' ys ho =>
      OwnI.kept (w := w'.alloc tmp) ⟨ho.1.alloc tmp, ho.2⟩ hg (owns_apart ho.1 h1' (by decide))
    have hl : vs.length = xss.length := by have := h1.1; omega
    rcases Nat.lt_or_ge k xss.length with hlt | hge
    · rw [List.getElem?_append_left hlt] at hk
      obtain ⟨u', hu', ho⟩ := h2 k ys hk
      exact ⟨u', by rw [List.getElem?_append_left (by omega)]; exact hu', key u' ys (ho.below hb)⟩
    · obtain ⟨hk', hke⟩ := List.getElem?_eq_some_iff.1 hk
      have hkl : k = xss.length := by simp at hk'; omega
      subst hkl
      have : ys = xs := by rw [← hke]; simp
      subst this
      exact ⟨u, by rw [List.getElem?_append_right (by omega)]; simp [hl], key u ys (hu.mono hbase)⟩
  · rw [List.pairwise_append]
    refine ⟨h3, List.pairwise_singleton _ _, fun a ha b hb' => ?_⟩
    rw [List.mem_singleton] at hb'
    subst hb'
    obtain ⟨k, hk⟩ := List.getElem?_of_mem ha
    have hl : vs.length = xss.length := by have := h1.1; omega
    have hkl : k < xss.length := by rw [← hl]; exact (List.getElem?_eq_some_iff.1 hk).1
    obtain ⟨u', hu', ho⟩ := h2 k _ (List.getElem?_eq_getElem hkl)
    rw [hk] at hu'
    cases hu'
    unfold Apart
    cases hab : a.ownBlock with
    | none => exact .inl rfl
    | some k1 =>
      refine .inr fun he => ?_
      have := owns_lt ho.1 k1 hab
      have := (hu.1.lt k1 he.symm).1
      omega
  · exact ((Below.refl base w').alloc (Nat.le_trans hbase hb.size) tmp).grown hg (by simp; have := hb.size; omega) (fun k hk => (h1'.lt k hk).1)
theorem OwnTb.empty (w : World) {base : Nat} (hw : base ≤ w.heap.size) : OwnTb (w.alloc (.cells #[] 44)) base (.slice (some ⟨w.heap.size, 0, none⟩) 0 0) [] :=
  ⟨[], World.ownsRow_made w #[] 0 hw (by simp [maxLen]) rfl, fun k x hx => by simp at hx, .nil⟩
def allocs (w : World) (l : List Obj) : World := l.foldl World.alloc w
theorem allocs_below : ∀ (l : List Obj) (w : World), Below w.heap.size w (allocs w l)
  | [], _ => Below.refl _ _
  | o :: l, w => bstep (balloc w o) (allocs_below l (w.alloc o))
theorem allocs_at : ∀ {l : List Obj} {w : World} {i : Nat} {o : Obj}, l[i]? = some o → (allocs w l).heap[w.heap.size + i]? = some o
  | [], w, i, o, h => by simp at h
  | p :: l, w, 0, o, h => by
    simp only [List.getElem?_cons_zero, Option.some.injEq] at h
    subst h
    exact ((allocs_below l (w.alloc p)).block _ (by simp)).trans (heap_fresh rfl)
  | p :: l, w, i + 1, o, h => by
    have := allocs_at (l := l) (w := w.alloc p) (i := i) (o := o) (by simpa using h)
    rw [World.size_alloc, Nat.add_assoc, Nat.add_comm 1 i] at this
    exact this
/-- values that read as a list, one by one -/
def AllV {α : Type} (R : World → Value → α → Prop) (w : World) : List Value → List α → Prop
  | [], [] => True
  | v :: vs, x :: xs => R w v x ∧ AllV R w vs xs
  | _, _ => False
theorem AllV.at {α : Type} {R : World → Value → α → Prop} {w : World} : ∀ {vs : List Value} {xs : List α}, AllV R w vs xs → ∀ (k : Nat) (x : α), xs[k]? = some x → ∃ v, vs[k]? = some v ∧ R w v x
  | [], [], _, k, x, h => by simp at h
  | v :: vs, y :: ys, ⟨h1, h2⟩, 0, x, h => by simp at h; subst h; exact ⟨v, rfl, h1⟩
  | v :: vs, y :: ys, ⟨h1, h2⟩, k + 1, x, h => by simp at h; obtain ⟨v', hv, hr⟩ := h2.at k x h; exact ⟨v', by simpa using hv, hr⟩
theorem AllV.len {α : Type} {R : World → Value → α → Prop} {w : World} : ∀ {vs : List Value} {xs : List α}, AllV R w vs xs → xs.length = vs.length
  | [], [], _ => rfl
  | v :: vs, y :: ys, ⟨_, h2⟩ => by rw [List.length_cons, List.length_cons, h2.len]
theorem sl_at {α : Type} {R : World → Value → α → Prop} {w : World} {c : Array Value} {t : TypeId} {f : Nat × Nat} {b n : Nat} {xs : List α} (hb : w.heap[b]? = some (.cells c t f)) (h : AllV R w c.toList xs) (hn : c.toList.length = n) (hs : n ≤ 4611686018427387903) : Sl R w (some ⟨b, 0, none⟩) n xs := by
  refine ⟨by rw [h.len, hn], hs, fun k x hk => ?_⟩
  obtain ⟨v, hv, hr⟩ := h.at k x hk
  exact ⟨b, 0, v, rfl, by rw [Nat.zero_add]; simp only [World.cell?, hb]; simpa using hv, hr⟩
/-- elements of m cells, one by one -/
def AllM {α : Type} (m : Nat) (R : World → Nat → Nat → α → Prop) (w : World) (b : Nat) : Nat → List α → Prop
  | _, [] => True
  | o, x :: xs => R w b o x ∧ AllM m R w b (o + m) xs
theorem AllM.at {α : Type} {m : Nat} {R : World → Nat → Nat → α → Prop} {w : World} {b : Nat} : ∀ {o : Nat} {xs : List α}, AllM m R w b o xs → ∀ (k : Nat) (x : α), xs[k]? = some x → R w b (o + k * m) x
  | o, [], _, k, x, h => by simp at h
  | o, y :: ys, ⟨h1, h2⟩, 0, x, h => by simp at h; subst h; simpa using h1
  | o, y :: ys, ⟨h1, h2⟩, k + 1, x, h => by
    simp at h
    have := h2.at k x h
    rwa [show o + m + k * m = o + (k + 1) * m by rw [Nat.succ_mul]; omega] at this
theorem slM_at {α : Type} {m : Nat} {R : World → Nat → Nat → α → Prop} {w : World} {b n : Nat} {xs : List α} (h : AllM m R w b 0 xs) (hn : xs.length = n) (hs : n ≤ 4611686018427387903) : SlM m R w (some ⟨b, 0, none⟩) n xs :=
  ⟨hn, hs, fun k x hk => ⟨b, 0, rfl, h.at k x hk⟩⟩
theorem blk_cell {w : World} {c : Array Value} {t : TypeId} {f : Nat × Nat} {b i : Nat} {v : Value} (hb : w.heap[b]? = some (.cells c t f)) (hv : c[i]? = some v) : w.cell? ⟨b, i, none⟩ = some v := by
  simp only [World.cell?, hb]; simpa using hv
end Go.Ap
