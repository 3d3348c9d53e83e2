/-
  A slice of rows whose capacities are at least their lengths; two rows of values that grow side by side; what holds whatever happens to one block.
-/
import Derived.Test.YtbcnbchpcbglhaaPPla
import Derived.Test.YtbcnbchpcbglhaaOpen
import Derived.Deep.AppendLies
import Derived.Deep.RegionLaw
namespace Go.Ap
open Go Go.RowKit Go.Deep Go.ChangeShapes Go.WideShapes Go.ChangeAt

def RowC (w : World) (v : Value) (xs : List Int) : Prop := ∃ a n c, v = .slice a n c ∧ n ≤ c ∧ Ints w a n xs
theorem RowC.row {w : World} {v : Value} {xs : List Int} (h : RowC w v xs) : RowR w v xs := by
  obtain ⟨a, n, c, rfl, _, h⟩ := h
  exact ⟨a, n, c, rfl, h⟩
theorem rows_of_c {w : World} {a : Option Addr} {n : Nat} {S : List (List Int)} (h : Sl RowC w a n S) : Rows2 w a n S :=
  ⟨h.len, h.small, fun k x hk => by
    obtain ⟨b, off, v, ha, hc, hr⟩ := h.cells k x hk
    exact ⟨b, off, v, ha, hc, hr.row⟩⟩
theorem rowsC_all {w : World} {a : Option Addr} {n : Nat} {S : List (List Int)} (h : Sl RowC w a n S) (hn : 0 < n) :
    ∃ b off, a = some ⟨b, off, none⟩ ∧ ∀ k, k < n → ∃ a' n' c', w.cell? ⟨b, off + k, none⟩ = some (.slice a' n' c') ∧ n' ≤ c' ∧ Ints w a' n' (S.getD k []) := by
  obtain ⟨x, b, off, v, _, ha, _, _⟩ := Sl.at h hn
  refine ⟨b, off, ha, fun k hk => ?_⟩
  obtain ⟨y, b', off', v', hy, ha', hc, a', n', c', rfl, hcc, hI⟩ := Sl.at h hk
  rw [ha] at ha'
  cases ha'
  have : S.getD k [] = y := by rw [List.getD_eq_getElem?_getD, hy]; rfl
  rw [this]
  exact ⟨a', n', c', hc, hcc, hI⟩

section
variable {H : Type} {enc : TypeId × Value → H} {P : Program} {w : World}
theorem open_RowsC {t s e : TypeId} {a : Option Addr} {n c fuel : Nat} {d : DataW H} {p : List MemPlace} (ht : P.underlying t = some (.slice s)) (hs : P.underlying s = some (.slice e)) (he : P.underlying e = some (.int .i64)) (cs : P.cellsOf s = 1) (ce : P.cellsOf e = 1)
    (hbs : 1 ≤ P.bytesOf s) (hbe : 1 ≤ P.bytesOf e)
    (h : DataW.trod enc P w 0 (fun _ => true) true fuel t [.slice a n c] = some (d, p)) (hw : Fit P t d) : ∃ xs, Sl RowC w a n xs :=
  open_sl1 ht cs hbs (fun fuel v d p h hf => by
    rcases open_slice1 hs ce h with ⟨hcs, _⟩ | ⟨a', len, cap, m, k, V, D, Pl, hcs, _, hl, _⟩
    · simp at hcs; subst hcs; exact ⟨[], _, _, _, rfl, Nat.le_refl _, Sl.nil _ _⟩
    · simp at hcs
      subst hcs
      obtain ⟨xs, hxs⟩ := open_Ints hs he ce hbe h hf
      exact ⟨xs, _, _, _, rfl, hl, hxs⟩) h hw
end
end Go.Ap

namespace Go.Proofs.Ytbcnbchpcbglhaa
open Go.RowKit Go.Ap Go.Shelf Go.Proofs

/-- two rows of values of the call's own, in no one block -/
def Two (e : TypeId) (W : World) (base : Nat) (v u : Value) (n k : Nat) (xs ys : List Value) : Prop := W.ownsRow base e 1 v n xs ∧ W.ownsRow base e 1 u k ys ∧ Disj u v
section
variable {e : TypeId} {w w1 : World} {base : Nat} {v u v' : Value} {n k g n' c' : Nat} {xs ys zs : List Value}
theorem Two.swap (h : Two e w base v u n k xs ys) : Two e w base u v k n ys xs := ⟨h.2.1, h.1, h.2.2.symm⟩
theorem Two.below (h : Two e w base v u n k xs ys) (hb : Below w.heap.size w w1) : Two e w1 base v u n k xs ys := ⟨owns_below h.1 hb, owns_below h.2.1 hb, h.2.2⟩
/-- what append to the first of them leaves -/
theorem Two.push (h : Two e w base v u n k xs ys) (hb : base ≤ w.heap.size) (hown : w1.ownsRow base e 1 (.slice (some ⟨g, 0, none⟩) n' c') n' zs) (hg : w.grownBy w1 v.ownBlock) (hat : v.ownBlock = some g ∨ g = w.heap.size) :
    Two e w1 base (.slice (some ⟨g, 0, none⟩) n' c') u n' k zs ys ∧ Below base w w1 := by
  obtain ⟨h1, h2, h3⟩ := h
  refine ⟨⟨hown, h2.kept hg h3.or, fun b hb1 hb2 => ?_⟩, (Below.refl base w).grown hg hb (fun j hj => (h1.lt j hj).1)⟩
  have hbg : b = g := by simpa [Value.ownBlock] using hb2.symm
  subst hbg
  rcases hat with hat | hat
  · exact h3 b hb1 hat
  · have := owns_lt h2 b hb1; omega
end

/-- what holds in every world that agrees with this one on all its blocks but one -/
def Rob (ob : Option Nat) (w : World) (P : World → Prop) : Prop := ∀ W : World, (∀ j, j < w.heap.size → some j ≠ ob → W.heap[j]? = w.heap[j]?) → P W
section
variable {ob : Option Nat} {w w1 w2 : World} {P Q : World → Prop}
theorem Rob.at (h : Rob ob w P) : P w := h w fun _ _ _ => rfl
theorem Rob.below (h : Rob ob w P) (hb : Below w.heap.size w w1) : Rob ob w1 P := fun W hW => h W fun j hj hne => by
  rw [hW j (Nat.lt_of_lt_of_le hj hb.size) hne, hb.block j hj]
/-- through an append to the row in that block -/
theorem Rob.grown {g : Nat} (h : Rob ob w P) (hg : w.grownBy w1 ob) (hs : w.heap.size ≤ w1.heap.size) (hat : ob = some g ∨ g = w.heap.size) : Rob (some g) w1 P := fun W hW => h W fun j hj hne => by
  have hjg : some j ≠ some g := by
    rcases hat with rfl | rfl
    · exact hne
    · intro e; simp at e; omega
  rw [hW j (Nat.lt_of_lt_of_le hj hs) hjg, hg.block j hj hne]
end

end Go.Proofs.Ytbcnbchpcbglhaa
