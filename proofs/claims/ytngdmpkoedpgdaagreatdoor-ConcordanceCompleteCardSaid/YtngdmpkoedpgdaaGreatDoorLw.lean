/-
  What a comparison of a sort's may do: draw, and lay blocks. Bytes of the call's own.
-/
import Derived.Sort.Grow
import Derived.Lib.ConvBytes
import Derived.Test.YtngdmpkoedpgdaaGreatDoorDp
import Derived.Test.YtngdmpkoedpgdaaGreatDoorOi
namespace Go.Ap
open Go Go.RowKit
/-- draws and blocks behind the heap: nothing else -/
def Lw (w w' : World) : Prop := ∃ q os, w' = Sort.grow (w.drewN q) os
section
variable {w w' w'' : World}
theorem Lw.refl (w : World) : Lw w w := ⟨0, #[], by rw [Sort.grow_empty]; rfl⟩
theorem Lw.trans (h : Lw w w') (k : Lw w' w'') : Lw w w'' := by
  obtain ⟨q, os, rfl⟩ := h
  obtain ⟨r, os', rfl⟩ := k
  refine ⟨q + r, os ++ os', ?_⟩
  rw [← Sort.grow_grow]
  unfold Sort.grow World.drewN
  simp only [Nat.add_assoc]
theorem Lw.below (h : Lw w w') : Below w.heap.size w w' := by
  obtain ⟨q, os, rfl⟩ := h
  refine ⟨rfl, rfl, rfl, by rw [Sort.size_grow]; exact Nat.le_add_right _ _, fun k hk => ?_⟩
  rw [Sort.heap_grow_old _ _ (by exact hk)]
  rfl
theorem Lw.drawn (h : Lw w w') : w.drawn ≤ w'.drawn := by
  obtain ⟨q, os, rfl⟩ := h
  exact Nat.le_add_right _ _
theorem lw_of (h : Below w.heap.size w w') (hd : w.drawn ≤ w'.drawn) : Lw w w' := by
  refine ⟨w'.drawn - w.drawn, w'.heap.extract w.heap.size w'.heap.size, ?_⟩
  obtain ⟨heap, tape, drawn, os, output⟩ := w'
  obtain ⟨h1, h2, h3, h4, h5⟩ := h
  simp only at h1 h2 h3 h4 h5 hd
  subst h1 h2 h3
  unfold Sort.grow World.drewN
  simp only [World.mk.injEq, and_true, true_and]
  refine ⟨?_, by omega⟩
  apply Array.ext_getElem?
  intro k
  rw [Array.getElem?_append]
  by_cases hk : k < w.heap.size
  · rw [if_pos hk]
    exact h5 k hk
  · rw [if_neg hk, Array.getElem?_extract]
    by_cases h6 : k - w.heap.size < heap.size - w.heap.size
    · rw [if_pos (by omega), show w.heap.size + (k - w.heap.size) = k by omega]
    · rw [if_neg (by omega), Array.getElem?_eq_none (by omega)]
end
/-- bytes that may be stored -/
def BytesAt (W : World) (b : Nat) (xs : Str) : Prop := ∀ j (h : j < xs.length), W.cell? ⟨b, j, none⟩ = some (.int .u8 (xs[j].toNat : Int)) ∧ W.frozen? ⟨b, j, none⟩ = false
section
variable {W W' : World} {b : Nat} {xs : Str}
theorem BytesAt.new (w : World) (e : TypeId) (s : Str) : BytesAt (Lib.bytesWorld w e (bs s)) w.heap.size s := fun j h => by
  have hs : (bs s).size = s.length := bs_size
  refine ⟨?_, ?_⟩
  · rw [Lib.bytesWorld_cell w e (bs s) j (by omega)]
    simp [bs, List.getD, List.getElem?_eq_getElem h]
  · have hc := Lib.bytesWorld_at_new w e (bs s)
    have hl : s.length ≤ (Lib.bytesCells w e (bs s)).size := by
      unfold Lib.bytesCells
      rw [Array.size_append, Array.size_map]
      have : (bs s).data.size = s.length := hs
      omega
    simp only [World.frozen?, hc]
    simp only [Bool.and_eq_false_iff, decide_eq_false_iff_not]
    left
    omega
theorem BytesAt.set (h : BytesAt W b xs) (i : Nat) (c : UInt8) : BytesAt (W.setCell ⟨b, i, none⟩ (.int .u8 (c.toNat : Int))) b (xs.set i c) := fun j hj => by
  rw [List.length_set] at hj
  obtain ⟨h1, h2⟩ := h j hj
  obtain ⟨cs, e, fr, g1, g2⟩ := Sort.cells_of_cell? h1
  have g3 : (W.setCell ⟨b, i, none⟩ (.int .u8 (c.toNat : Int))).heap[b]? = some (.cells (cs.setIfInBounds i (.int .u8 (c.toNat : Int))) e fr) := by
    simp [World.setCell, Array.getElem?_modify, g1]
  refine ⟨?_, ?_⟩
  · simp only [World.cell?, g3]
    have hjs : j < cs.size := (Array.getElem?_eq_some_iff.1 g2).1
    by_cases hij : i = j
    · subst hij
      simp [hjs]
    · simp only [List.getElem_set, if_neg hij]
      simpa [Array.getElem?_setIfInBounds, hij] using g2
  · simp only [World.frozen?, g3]
    simpa only [World.frozen?, g1] using h2
theorem BytesAt.lt (h : BytesAt W b xs) (h0 : 0 < xs.length) : b < W.heap.size := World.block_lt_of_cell? W _ (h 0 h0).1
theorem BytesAt.conv {P : Program} {src dst e : TypeId} (h : BytesAt W b xs) (c : Nat) (hs : P.underlying src = some (.slice e)) (he : P.underlying e = some (.int .u8)) (hd : P.underlying dst = some .string) :
    (convert src dst (.slice (some ⟨b, 0, none⟩) xs.length c)).run P W = .ok (.string (bs xs)) W :=
  run_convert_bytes_back W src dst e ⟨b, 0, none⟩ c xs hs he hd fun j hj => by
    have := (h j hj).1
    have hadd : (⟨b, 0, none⟩ : Addr).add j = ⟨b, j, none⟩ := by unfold Addr.add; split <;> simp_all
    rw [hadd]
    exact this
theorem bytes_drawn (w : World) (e : TypeId) (s : ByteArray) : w.drawn ≤ (Lib.bytesWorld w e s).drawn := by
  unfold Lib.bytesWorld World.freeze
  split <;> exact Nat.le_succ _
end
end Go.Ap
