/-
  The contracted graph of a small valid graph (law Contracts): the plain part.
-/
import Derived.Test.YtjmebijckcimoaaGreatDoorFh24
import Derived.Test.YtjmebijckcimoaaGreatDoorGo24
import Derived.Test.YtjmebijckcimoaaGreatDoorJo24
namespace Go.Ap
open Go Go.RowKit
def contrE (ws : List Str) (al : List Vg.Arc) : List Str := Vg.contrW [32] ((ws.length : Int) - 1) al (fun k => ws.getD k.toNat []) ws.length
end Go.Ap
namespace Go.Proofs.YtjmebijckcimoaaGreatDoor
open Go.RowKit Go.Ap Go.Shelf Go.Proofs
theorem spell_len24 {ws : List Str} {al : List Vg.Arc} {m : Nat} (hok : Vg.chkG ws al = 0) (h : ∀ u ∈ ws, u.length ≤ m) (s : Int) : (Vg.spellW ws al s).length ≤ al.length ∧ ∀ u ∈ Vg.spellW ws al s, u.length ≤ m := by
  obtain ⟨_, _, _, _, V, _⟩ := Vg.chkG_zero.1 hok
  rw [spell_walk V]
  refine ⟨by rw [List.length_map]; exact walkP_len, fun u hu => ?_⟩
  obtain ⟨k, _, rfl⟩ := List.mem_map.1 hu
  exact getD_len h _
end Go.Proofs.YtjmebijckcimoaaGreatDoor
