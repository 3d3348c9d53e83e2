/-
  Plain laws: what Cover returns is the least cover, by its length and then in the order of lists; the reference's Cover returns the same.
-/
import Derived.Test.YtcmckcmckbdmhaaW24
namespace Go.Proofs.Ytcmckcmckbdmhaa
open Go.RowKit Go.Ap

/-! the order -/
theorem lessL_tri : ∀ (a b : List Int), a.length = b.length → lessL a b = true ∨ a = b ∨ lessL b a = true
  | [], [], _ => .inr (.inl rfl)
  | [], _ :: _, h => by simp at h
  | _ :: _, [], h => by simp at h
  | x :: a, y :: b, h => by
    by_cases e : x = y
    · subst e
      rcases lessL_tri a b (by simpa using h) with h1 | h1 | h1
      · exact .inl (by rw [lessL, if_pos rfl]; exact h1)
      · exact .inr (.inl (by rw [h1]))
      · exact .inr (.inr (by rw [lessL, if_pos rfl]; exact h1))
    · rcases Int.lt_or_lt_of_ne e with h1 | h1
      · exact .inl (by rw [lessL, if_neg e]; simpa using h1)
      · exact .inr (.inr (by rw [lessL, if_neg (Ne.symm e)]; simpa using h1))
theorem lessL_irr : ∀ (a : List Int), lessL a a = false
  | [] => rfl
  | x :: a => by rw [lessL, if_pos rfl]; exact lessL_irr a
theorem lessL_trans : ∀ (a b c : List Int), lessL a b = true → lessL b c = true → lessL a c = true
  | x :: a, y :: b, z :: c, h1, h2 => by
    rw [lessL] at h1 h2 ⊢
    split at h1
    · rename_i e; subst e
      split at h2
      · rename_i e; subst e; rw [if_pos rfl]; exact lessL_trans a b c h1 h2
      · rename_i e; rw [if_neg e]; exact h2
    · rename_i e
      split at h2
      · rename_i e2; subst e2; rw [if_neg e]; exact h1
      · simp only [decide_eq_true_eq] at h1 h2
        rw [if_neg (by omega)]; simp; omega
  | [], _, _, h, _ => by simp [lessL] at h
  | _ :: _, [], _, h, _ => by simp [lessL] at h
  | _ :: _, _ :: _, [], _, h => by simp [lessL] at h

/-- shorter, or as long and no later -/
def leL (a b : List Int) : Prop := a.length < b.length ∨ (a.length = b.length ∧ (a = b ∨ lessL a b = true))
theorem leL_refl (a : List Int) : leL a a := .inr ⟨rfl, .inl rfl⟩
theorem leL_trans {a b c : List Int} (h1 : leL a b) (h2 : leL b c) : leL a c := by
  rcases h1 with h1 | ⟨e1, h1⟩
  · rcases h2 with h2 | ⟨e2, h2⟩
    · exact .inl (by omega)
    · exact .inl (by omega)
  · rcases h2 with h2 | ⟨e2, h2⟩
    · exact .inl (by omega)
    · refine .inr ⟨by omega, ?_⟩
      rcases h1 with rfl | h1
      · exact h2
      · rcases h2 with rfl | h2
        · exact .inr h1
        · exact .inr (lessL_trans _ _ _ h1 h2)
theorem leL_anti {a b : List Int} (h1 : leL a b) (h2 : leL b a) : a = b := by
  rcases h1 with h1 | ⟨e1, h1⟩
  · rcases h2 with h2 | ⟨e2, h2⟩ <;> omega
  · rcases h2 with h2 | ⟨e2, h2⟩
    · omega
    · rcases h1 with h1 | h1
      · exact h1
      · rcases h2 with h2 | h2
        · exact h2.symm
        · have := lessL_trans _ _ _ h1 h2
          rw [lessL_irr] at this
          cases this

/-! covers -/
/-- the sets at these indices lie in t -/
def Ins (t : List Int) (xss : List (List Int)) (l : List Int) : Prop := ∀ i ∈ l, ∀ x, (row xss i).contains x = true → t.contains x = true
/-- together with acc they hold t -/
def Holds (t : List Int) (xss : List (List Int)) (l acc : List Int) : Prop := ∀ x, t.contains x = true → acc.contains x = true ∨ ∃ i ∈ l, (row xss i).contains x = true
def Cov (t : List Int) (xss : List (List Int)) (l : List Int) : Prop := Ins t xss l ∧ Holds t xss l []

theorem row_setL {xss : List (List Int)} (sx : ∀ xs ∈ xss, SetL xs) (i : Int) : SetL (row xss i) := by
  unfold row
  cases h : xss[i.toNat]? with
  | none => exact ⟨List.Pairwise.nil, by simp⟩
  | some xs => exact sx xs (List.mem_of_getElem? h)

theorem withinB_iff {xs ys : List Int} (hx : SetL xs) (hy : SetL ys) : withinB xs ys = true ↔ ∀ x, xs.contains x = true → ys.contains x = true := by
  rw [within_plain (okB_setL hx hy), List.all_eq_true]
  constructor
  · intro h x hx; exact h x (List.contains_iff_mem.1 hx)
  · intro h x hx; exact h x (List.contains_iff_mem.2 hx)

theorem rcov_iff {t : List Int} {xss : List (List Int)} (st : SetL t) (sx : ∀ xs ∈ xss, SetL xs) : ∀ (l acc : List Int), SetL acc → (rcov t xss l acc = true ↔ Ins t xss l ∧ Holds t xss l acc)
  | [], acc, sa => by
    rw [rcov, withinB_iff st sa]
    constructor
    · intro h; exact ⟨by intro i hi; simp at hi, fun x hx => .inl (h x hx)⟩
    · rintro ⟨_, h⟩ x hx
      rcases h x hx with h | ⟨i, hi, _⟩
      · exact h
      · simp at hi
  | i :: l, acc, sa => by
    have ih := rcov_iff st sx l (combR (fun x y => x || y) acc (row xss i)) (combR_ok_setL _ _)
    have sr := row_setL sx i
    have hc : ∀ x, (combR (fun x y => x || y) acc (row xss i)).contains x = (acc.contains x || (row xss i).contains x) := by
      intro x
      rw [combR_setL sa sr, comb_contains]
      have h1 := setL_in sa x
      have h2 := setL_in sr x
      revert h1 h2
      cases decide (0 ≤ x ∧ x < 64) <;> cases acc.contains x <;> cases (row xss i).contains x <;> simp
    rw [rcov]
    by_cases hw : withinB (row xss i) t = true
    · rw [if_pos hw, ih]
      have hw' := (withinB_iff sr st).1 hw
      constructor
      · rintro ⟨h1, h2⟩
        refine ⟨fun j hj => ?_, fun x hx => ?_⟩
        · rcases List.mem_cons.1 hj with rfl | hj
          · exact hw'
          · exact h1 j hj
        · rcases h2 x hx with h | ⟨j, hj, h⟩
          · rw [hc, Bool.or_eq_true] at h
            rcases h with h | h
            · exact .inl h
            · exact .inr ⟨i, List.mem_cons_self .., h⟩
          · exact .inr ⟨j, List.mem_cons_of_mem _ hj, h⟩
      · rintro ⟨h1, h2⟩
        refine ⟨fun j hj => h1 j (List.mem_cons_of_mem _ hj), fun x hx => ?_⟩
        rw [hc]
        rcases h2 x hx with h | ⟨j, hj, h⟩
        · exact .inl (by rw [h]; rfl)
        · rcases List.mem_cons.1 hj with rfl | hj
          · exact .inl (by rw [h, Bool.or_true])
          · exact .inr ⟨j, hj, h⟩
    · rw [if_neg hw]
      constructor
      · intro h; cases h
      · rintro ⟨h1, _⟩
        exact absurd ((withinB_iff sr st).2 (h1 i (List.mem_cons_self ..))) hw

/-! the reference's choice -/
theorem idx_setL {m : Nat} {l : List Int} (hm : m ≤ 64) (h : IdxL m l) : SetL l := ⟨h.1, fun x hx => by have := h.2 x hx; omega⟩
theorem choice_of {m : Nat} (hm : m ≤ 64) {l : List Int} (h : IdxL m l) : ∃ ch, ch < 2 ^ m ∧ choiceL m ch = l := by
  refine ⟨bitsN l, ?_, ?_⟩
  · apply Nat.lt_pow_two_of_testBit
    intro i hi
    rw [bitsN_testBit l i (fun x hx => (h.2 x hx).1)]
    cases hc : l.contains (i : Int)
    · rfl
    · have := h.2 _ (List.contains_iff_mem.1 hc); omega
  · refine setL_ext (memb_setL _ _ hm) (idx_setL hm h) fun k => ?_
    rw [choiceL, memb_contains]
    by_cases hk : 0 ≤ k ∧ k < m
    · rw [bitsN_testBit l _ (fun x hx => (h.2 x hx).1), show ((k.toNat : Nat) : Int) = k by omega]
      simp [hk]
    · cases hc : l.contains k
      · simp [hk]
      · exact absurd (h.2 _ (List.contains_iff_mem.1 hc)) hk
theorem idx_len {m : Nat} (hm : m ≤ 64) {l : List Int} (h : IdxL m l) : l.length ≤ m := by
  obtain ⟨ch, _, rfl⟩ := choice_of hm h
  exact memb_len _ _

/-- what is known when all choices below ch are done -/
def InvC (t : List Int) (xss : List (List Int)) (ch : Nat) (best : List Int) (found : Bool) : Prop :=
  (found = false → ∀ c, c < ch → ¬ Cov t xss (choiceL xss.length c)) ∧
  (found = true → Cov t xss best ∧ IdxL xss.length best ∧ ∀ c, c < ch → Cov t xss (choiceL xss.length c) → leL best (choiceL xss.length c))

theorem inv_step {t : List Int} {xss : List (List Int)} (st : SetL t) (sx : ∀ xs ∈ xss, SetL xs) {ch : Nat} {best : List Int} {found : Bool} (h : InvC t xss ch best found) :
    InvC t xss (ch + 1) (stepC t xss best found (choiceL xss.length ch)).1 (stepC t xss best found (choiceL xss.length ch)).2 := by
  have hcov := rcov_iff st sx (choiceL xss.length ch) [] ⟨List.Pairwise.nil, by simp⟩
  have hidx : IdxL xss.length (choiceL xss.length ch) := memb_idx _ _
  generalize hL : choiceL xss.length ch = L at hcov hidx ⊢
  have last : ∀ {Q : Nat → Prop}, (∀ c, c < ch → Q c) → Q ch → ∀ c, c < ch + 1 → Q c := fun h1 h2 c hc => by
    rcases Nat.lt_succ_iff_lt_or_eq.1 hc with h | rfl
    · exact h1 c h
    · exact h2
  rw [stepC]
  cases found with
  | false =>
    have h1 := h.1 rfl
    simp only [Bool.false_and, Bool.false_eq_true, if_false, Bool.not_false, Bool.true_or, Bool.and_true]
    by_cases hc : rcov t xss L [] = true
    · rw [if_pos hc]
      refine ⟨(fun h => by cases h), fun _ => ⟨hcov.1 hc, hidx, last (fun c hc' hcv => absurd hcv (h1 c hc')) (fun _ => by rw [hL]; exact leL_refl _)⟩⟩
    · rw [if_neg hc]
      exact ⟨fun _ => last h1 (by rw [hL]; exact fun h => hc (hcov.2 h)), (fun h => by cases h)⟩
  | true =>
    obtain ⟨hb, hi, hmin⟩ := h.2 rfl
    simp only [Bool.true_and, Bool.not_true, Bool.false_or, decide_eq_true_eq]
    by_cases hgt : best.length < L.length
    · rw [if_pos hgt]
      exact ⟨(fun h => by cases h), fun _ => ⟨hb, hi, last hmin (fun _ => by rw [hL]; exact .inl hgt)⟩⟩
    · rw [if_neg hgt]
      by_cases hc : rcov t xss L [] = true
      · rw [hc, Bool.true_and]
        by_cases hless : L.length < best.length ∨ lessL L best = true
        · rw [if_pos (by simpa using hless)]
          have hle : leL L best := by
            rcases hless with h | h
            · exact .inl h
            · by_cases he : L.length < best.length
              · exact .inl he
              · exact .inr ⟨by omega, .inr h⟩
          exact ⟨(fun h => by cases h), fun _ => ⟨hcov.1 hc, hidx, last (fun c hc' hcv => leL_trans hle (hmin c hc' hcv)) (fun _ => by rw [hL]; exact leL_refl _)⟩⟩
        · rw [if_neg (by simpa using hless)]
          have hle : leL best L := by
            refine .inr ⟨by omega, ?_⟩
            rcases lessL_tri best L (by omega) with h | h | h
            · exact .inr h
            · exact .inl h
            · exact absurd (.inr h) hless
          exact ⟨(fun h => by cases h), fun _ => ⟨hb, hi, last hmin (fun _ => by rw [hL]; exact hle)⟩⟩
      · have hf : rcov t xss L [] = false := by simpa using hc
        rw [hf, Bool.false_and, if_neg (by simp)]
        exact ⟨(fun h => by cases h), fun _ => ⟨hb, hi, last hmin (fun hcv => by rw [hL] at hcv; exact absurd (hcov.2 hcv) hc)⟩⟩

theorem inv_fold {t : List Int} {xss : List (List Int)} (st : SetL t) (sx : ∀ xs ∈ xss, SetL xs) : ∀ (f ch : Nat) (best : List Int) (found : Bool), InvC t xss ch best found → InvC t xss (ch + f) (foldC t xss f ch best found).1 (foldC t xss f ch best found).2
  | 0, ch, best, found, h => h
  | f + 1, ch, best, found, h => by
    have := inv_fold st sx f (ch + 1) _ _ (inv_step st sx h)
    rw [foldC]
    rwa [show ch + 1 + f = ch + (f + 1) by omega] at this

/-- the least cover, or that there is none -/
def Least (t : List Int) (xss : List (List Int)) (o : Option (List Int)) : Prop :=
  match o with
  | some l => Cov t xss l ∧ IdxL xss.length l ∧ ∀ l', IdxL xss.length l' → Cov t xss l' → leL l l'
  | none => ∀ l', IdxL xss.length l' → ¬ Cov t xss l'
theorem least_unique {t : List Int} {xss : List (List Int)} {o o' : Option (List Int)} (h : Least t xss o) (h' : Least t xss o') : o = o' := by
  cases o with
  | none =>
    cases o' with
    | none => rfl
    | some l => exact absurd h'.1 (h l h'.2.1)
  | some l =>
    cases o' with
    | none => exact absurd h.1 (h' l h.2.1)
    | some l' => rw [leL_anti (h.2.2 l' h'.2.1 h'.1) (h'.2.2 l h.2.1 h.1)]

theorem rcover_least {t : List Int} {xss : List (List Int)} (st : SetL t) (sx : ∀ xs ∈ xss, SetL xs) (hm : xss.length ≤ 64) :
    Least t xss (if (rcoverO t xss).2 then some (rcoverO t xss).1 else none) := by
  have h0 : InvC t xss 0 [] false := ⟨fun _ c hc => by omega, (fun h => by cases h)⟩
  have h := inv_fold st sx (2 ^ xss.length) 0 [] false h0
  rw [Nat.zero_add] at h
  change InvC t xss _ (rcoverO t xss).1 (rcoverO t xss).2 at h
  cases hf : (rcoverO t xss).2
  · have := h.1 hf
    intro l' hl' hc
    obtain ⟨ch, h1, rfl⟩ := choice_of hm hl'
    exact this ch h1 hc
  · obtain ⟨h1, h2, h3⟩ := h.2 hf
    refine ⟨h1, h2, fun l' hl' hc => ?_⟩
    obtain ⟨ch, hch, rfl⟩ := choice_of hm hl'
    exact h3 ch hch hc

end Go.Proofs.Ytcmckcmckbdmhaa
