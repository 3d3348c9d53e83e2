/-
  A slice of slices of strings of the call's own.
-/
import Derived.Test.YtamdonlncfmmmaaPCrit
namespace Go.Ap
open Go Go.RowKit

def OwnSS (w : World) (base : Nat) (v : Value) (xss : List (List Str)) : Prop :=
  ∃ vs : List Value, w.ownsRow base 26 1 v xss.length vs ∧ ∀ (k : Nat) (xs : List Str), xss[k]? = some xs → ∃ u, vs[k]? = some u ∧ OwnS w base u xs
section
variable {w w' w1 : World} {base base' : Nat} {v v' u : Value} {xss : List (List Str)} {xs : List Str}
theorem OwnSS.below (h : OwnSS w base v xss) (hb : Below w.heap.size w w') : OwnSS w' base v xss := by
  obtain ⟨vs, h1, h2⟩ := h
  exact ⟨vs, owns_below h1 hb, fun k xs hk => by obtain ⟨u, hu, ho⟩ := h2 k xs hk; exact ⟨u, hu, ho.below hb⟩⟩
theorem OwnSS.mono (h : OwnSS w base v xss) (hb : base' ≤ base) : OwnSS w base' v xss := by
  obtain ⟨vs, h1, h2⟩ := h
  exact ⟨vs, owns_mono h1 hb, fun k xs hk => by obtain ⟨u, hu, ho⟩ := h2 k xs hk; exact ⟨u, hu, ho.mono hb⟩⟩
theorem OwnSS.nil (w : World) (base : Nat) : OwnSS w base (.slice none 0 0) [] := ⟨[], World.ownsRow_nil _ _ _ _, fun k x hx => by simp at hx⟩
theorem OwnSS.empty (w : World) {base : Nat} (hw : base ≤ w.heap.size) : OwnSS (w.alloc (.cells #[] 26)) base (.slice (some ⟨w.heap.size, 0, none⟩) 0 0) [] :=
  ⟨[], World.ownsRow_made w #[] 0 hw (by simp [maxLen]) rfl, fun k x hx => by simp at hx⟩
/-- a turn of a block that holds neither -/
theorem owns_turn {e : TypeId} {size n : Nat} {vs : List Value} {row : Option Nat} (h : w.ownsRow base e size v n vs) (hg : w.grownBy w' row) (hr : ∀ r cur z, row = some r → w.heap[r]? ≠ some (Obj.cells cur e z)) : w'.ownsRow base e size v n vs := by
  refine ⟨h.1, ?_⟩
  rcases h.2 with hn | ⟨g, cap, cur, rfl, hbb, hgg, rest⟩
  · exact .inl hn
  · exact .inr ⟨g, cap, cur, rfl, hbb, (hg.block g (Array.getElem?_eq_some_iff.1 hgg).1 (fun e => hr g cur _ e.symm hgg)).trans hgg, rest⟩
theorem OwnSS.turn {row : Option Nat} (h : OwnSS w base v xss) (hg : w.grownBy w' row) (hr : ∀ r cur z, row = some r → w.heap[r]? ≠ some (Obj.cells cur 26 z)) (hr9 : ∀ r cur z, row = some r → w.heap[r]? ≠ some (Obj.cells cur 9 z)) : OwnSS w' base v xss := by
  obtain ⟨vs, h1, h2⟩ := h
  exact ⟨vs, owns_turn h1 hg hr, fun k xs hk => by obtain ⟨u, hu, ho⟩ := h2 k xs hk; exact ⟨u, hu, owns_turn ho hg hr9⟩⟩
/-- ready for one more -/
theorem OwnSS.ready (h : OwnSS w base v xss) (hb : base ≤ w.heap.size) (hu : OwnS w base u xs) :
    ∃ vs, w.ownsRow base 26 1 v xss.length vs ∧ ∀ w1 v' tmp, w1.ownsRow base 26 1 v' (xss.length + 1) (vs ++ [u]) → (w.alloc tmp).grownBy w1 v.ownBlock → OwnSS w1 base v' (xss ++ [xs]) ∧ Below base w w1 := by
  obtain ⟨vs, h1, h2⟩ := h
  refine ⟨vs, h1, fun w1 v' tmp hown hg => ⟨⟨vs ++ [u], by simpa using hown, fun k ys hk => ?_⟩, ?_⟩⟩
  · have key : ∀ u' ys, OwnS w base u' ys → OwnS w1 base u' ys := fun u' ys ho => by
      have ho' : OwnS (w.alloc tmp) base u' ys := ho.below ((Below.refl _ w).alloc (Nat.le_refl _) _)
      have h1' : (w.alloc tmp).ownsRow base 26 1 v xss.length vs := owns_below h1 ((Below.refl _ w).alloc (Nat.le_refl _) _)
      exact World.ownsRow.kept ho' hg (owns_apart ho' h1' (by decide))
    have hl : vs.length = xss.length := by have := h1.1; omega
    rcases Nat.lt_or_ge k xss.length with hlt | hge
    · rw [List.getElem?_append_left hlt] at hk
      obtain ⟨u', hu', ho⟩ := h2 k ys hk
      exact ⟨u', by rw [List.getElem?_append_left (by omega)]; exact hu', key u' ys ho⟩
    · obtain ⟨hk', hke⟩ := List.getElem?_eq_some_iff.1 hk
      have hkl : k = xss.length := by simp at hk'; omega
      subst hkl
      refine ⟨u, by rw [← hl]; simp, ?_⟩
      have : ys = xs := by rw [← hke]; simp
      rw [this]
      exact key u xs hu
  · exact ((Below.refl base w).alloc hb tmp).grown hg (by simp; omega) (fun k hk => (h1.lt k hk).1)
theorem OwnSS.addr (h : OwnSS w base v xss) (hn : 0 < xss.length) : ∃ b c, v = .slice (some ⟨b, 0, none⟩) xss.length c := by
  obtain ⟨vs, h1, _⟩ := h
  rcases h1.2 with ⟨rfl, h0⟩ | ⟨g, cap, cur, rfl, _⟩
  · omega
  · exact ⟨g, cap, rfl⟩
end
theorem OwnSS.shape {w : World} {base : Nat} {v : Value} {xss : List (List Str)} (h : OwnSS w base v xss) : ∃ a c, v = .slice a xss.length c := by
  obtain ⟨vs, h1, _⟩ := h
  rcases h1.2 with ⟨rfl, h0⟩ | ⟨g, cap, cur, rfl, _⟩
  · exact ⟨none, 0, by rw [h0]⟩
  · exact ⟨_, cap, rfl⟩
def tripS (x : Trip) : List Str := [x.1, x.2.1, x.2.2]
end Go.Ap
