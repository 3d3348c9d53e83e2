/-
  Words on a block of ints that a call made itself (an array variable, a slice that was made): it holds a list, a store sets one element.
-/
import Derived.Test.YtcmckcmckbdmhaaBase
namespace Go.Ap
open Go Go.RowKit

/-- block B holds just these ints -/
def Arr (W : World) (B : Nat) (T : TypeId) (xs : List Int) : Prop := W.heap[B]? = some (.cells (xs.map (Value.int .i64)).toArray T (0, 0))

section
variable {W W' : World} {B : Nat} {T : TypeId} {xs : List Int}
theorem Arr.lt (h : Arr W B T xs) : B < W.heap.size := (Array.getElem?_eq_some_iff.1 h).1
theorem Arr.cell (h : Arr W B T xs) {k : Nat} (hk : k < xs.length) : W.cell? ⟨B, k, none⟩ = some (.int .i64 (nth xs k)) := by
  simp [World.cell?, show W.heap[B]? = _ from h, hk, nth_eq hk]
theorem Arr.free (h : Arr W B T xs) (k : Nat) : W.frozen? ⟨B, k, none⟩ = false := by simp [World.frozen?, show W.heap[B]? = _ from h]
theorem Arr.set (h : Arr W B T xs) (k : Nat) (v : Int) : Arr (W.setCell ⟨B, k, none⟩ (.int .i64 v)) B T (xs.set k v) := by
  obtain ⟨hlt, hk⟩ := Array.getElem?_eq_some_iff.1 h
  show (W.heap.modify B _)[B]? = _
  rw [Array.getElem?_eq_getElem (by rw [Array.size_modify]; exact hlt), Array.getElem_modify_self, hk]
  simp [List.map_set]
theorem Arr.kept (h : Arr W B T xs) (hb : Below W.heap.size W W') : Arr W' B T xs := (hb.block B h.lt).trans h
end

theorem nth_set {xs : List Int} {k j : Nat} {v : Int} (hk : k < xs.length) : nth (xs.set k v) j = if j = k then v else nth xs j := by
  unfold nth
  rw [List.getD_eq_getElem?_getD, List.getD_eq_getElem?_getD, List.getElem?_set]
  by_cases h : k = j
  · subst h; simp [hk]
  · rw [if_neg h, if_neg (Ne.symm h)]

/-- the numbers of times that 0, 1, .. stand in a list -/
def Cnt (C flat : List Int) : Prop := ∀ j, j < 64 → nth C j = (flat.count (j : Int) : Nat)
theorem Cnt.step {C flat : List Int} {x : Nat} (h : Cnt C flat) (hx : x < 64) (hC : C.length = 64) : Cnt (C.set x (nth C x + 1)) (flat ++ [(x : Int)]) := by
  intro j hj
  rw [nth_set (by omega), List.count_append]
  by_cases e : j = x
  · subst e
    rw [if_pos rfl, h j hj]
    simp
  · rw [if_neg e, h j hj]
    have : ([(x : Int)] : List Int).count (j : Int) = 0 := by
      rw [List.count_eq_zero]; simp; omega
    omega
theorem Cnt.zero : Cnt (List.replicate 64 0) [] := by
  intro j hj
  unfold nth
  rw [List.getD_eq_getElem?_getD, List.getElem?_replicate, if_pos hj]
  rfl

end Go.Ap
