/-
  A table of numbers that lies in memory, as the walks read it.
-/
import Derived.Test.YtbcnbchpcbglhaaL5
namespace Go.Proofs.Ytbcnbchpcbglhaa
open Go.RowKit Go.Ap Go.Shelf Go.Proofs

/-- a table lies in memory -/
def TabAt (W : World) (b o n : Nat) (f : Nat → Nat → Int) : Prop :=
  ∀ i, i < n → ∃ b' o' c', W.cell? ⟨b, o + i, none⟩ = some (.slice (some ⟨b', o', none⟩) n c') ∧ ∀ j, j < n → W.cell? ⟨b', o' + j, none⟩ = some (.int .i64 (f i j))
theorem tab_at {W : World} {a : Option Addr} {n : Nat} {f : Nat → Nat → Int} (h : Rows2 W a n (tabF f n n)) (hn : 0 < n) : ∃ b o, a = some ⟨b, o, none⟩ ∧ TabAt W b o n f := by
  obtain ⟨b, o, rfl, hc⟩ := Rows2.all h hn
  refine ⟨b, o, rfl, fun i hi => ?_⟩
  obtain ⟨a', n', c', hcell, hI⟩ := hc i hi
  rw [row_tabF hi] at hI
  obtain rfl : n' = n := by rw [← hI.len, lineF_len]
  obtain ⟨b', o', rfl, hc'⟩ := Ints.at hI hn
  exact ⟨b', o', c', hcell, fun j hj => by rw [hc' j hj, nth_lineF hj]⟩
theorem TabAt.drewN {W : World} {b o n q : Nat} {f : Nat → Nat → Int} (h : TabAt W b o n f) : TabAt (W.drewN q) b o n f := h
theorem TabAt.keep {W W' : World} {b o n : Nat} {f : Nat → Nat → Int} (h : TabAt W b o n f) (hb : Below W.heap.size W W') : TabAt W' b o n f := by
  intro i hi
  obtain ⟨b', o', c', h1, h2⟩ := h i hi
  exact ⟨b', o', c', cell_keep hb h1, fun j hj => cell_keep hb (h2 j hj)⟩

end Go.Proofs.Ytbcnbchpcbglhaa
