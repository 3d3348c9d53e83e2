/-
  A collation with its sources in another order: plain laws.
-/
import Derived.Test.YtjmebijckcimoaaGreatDoorPl
namespace Go.Ap
/-- an order that is its own inverse -/
structure Inv (n : Nat) (f : Nat → Nat) : Prop where
  lt : ∀ k, k < n → f k < n
  inv : ∀ k, f (f k) = k
def sw (a b k : Nat) : Nat := if k = b then a else if k = a then b else k
def StepA (L c nx nx' : List Int) (j : Nat) : Prop := (nth c j = -1 ∧ nth nx' j = nth nx j) ∨ (nth c j ≠ -1 ∧ nth c j = nth nx j ∧ nth c j < nth L j ∧ nth nx' j = nth nx j + 1)
structure ColA1 (L c nx nx' : List Int) (k : Nat) (sm : Bool) : Prop where
  len : nx'.length = nx.length
  step : ∀ j, j < k → StepA L c nx nx' j
  rest : ∀ j, k ≤ j → nth nx' j = nth nx j
  ex : sm = true ↔ ∃ j, j < k ∧ nth c j ≠ -1
theorem ColA1.zero (L c nx : List Int) : ColA1 L c nx nx 0 false := ⟨rfl, fun j hj => by omega, fun _ _ => rfl, by simp⟩
theorem ColA1.next {L c nx n1 n2 : List Int} {k : Nat} {s1 s2 : Bool} (h : ColA1 L c nx n1 k s1) (hk : k < nx.length) (he : eltA L n1 k (nth c k) s1 = some (n2, s2)) : ColA1 L c nx n2 (k + 1) s2 := by
  have hr := h.rest k (Nat.le_refl _)
  have hl := h.len
  unfold eltA at he
  split at he
  · rename_i h1
    cases he
    refine ⟨hl, fun j hj => ?_, fun j hj => h.rest j (by omega), h.ex.trans ⟨fun ⟨j, g1, g2⟩ => ⟨j, by omega, g2⟩, fun ⟨j, g1, g2⟩ => ⟨j, ?_, g2⟩⟩⟩
    · by_cases hjk : j = k
      · subst hjk; exact .inl ⟨h1, hr⟩
      · exact h.step j (by omega)
    · by_cases hjk : j = k
      · subst hjk; exact absurd h1 g2
      · omega
  · split at he
    · cases he
    · split at he
      · cases he
      · rename_i h1 h2 h3
        cases he
        simp only [ne_eq, Decidable.not_not] at h2
        refine ⟨by rw [List.length_set]; exact hl, fun j hj => ?_, fun j hj => ?_, ⟨fun _ => ⟨k, by omega, h1⟩, fun _ => rfl⟩⟩
        · by_cases hjk : j = k
          · subst hjk
            exact .inr ⟨h1, by rw [h2, hr], by omega, by rw [nth_set (by omega), if_pos rfl, hr]⟩
          · have := h.step j (by omega)
            unfold StepA at this ⊢
            rw [nth_set (by omega), if_neg hjk]
            exact this
        · rw [nth_set (by omega), if_neg (by omega)]
          exact h.rest j (by omega)
end Go.Ap
