/-
  AgreementPlaces' law: the input may be unfit.
-/
import Derived.Test.YtbcnbchpcbglhaaL9
namespace Go.Proofs.Ytbcnbchpcbglhaa
open Go.RowKit Go.Ap Go.Shelf Go.Proofs

set_option maxRecDepth 200000 in
theorem law9 (a : Option Addr) (n c : Nat) (S : List (List Int)) (z : Int) (w : World) (h : Sl RowC w a n S) (hz : 0 ≤ z ∧ z ≤ 255) :
    Calls Try.prog 9 #[.slice a n c, .int .u8 z] w fun e w' => e = .returned (.bool true) ∧ Below w.heap.size w w' := by
  have H21 := fine21b a n c S w (rows_of_c h)
  cases hF : fineB S
  · rw [hF] at H21
    have H21 := Lib.hid H21
    clear hF h hz
    go_enter Try.func9, Try.ntmps9
    go_wp2_with (fail)
    refine (H21.out).mono ?_
    rintro e w' ⟨rfl, k1⟩
    go_wp2_with (fail)
    refine (awake12 _).mono ?_
    rintro e w9 ⟨rfl, k9⟩
    go_wp2_with (fail)
    go_ret
    exact ⟨rfl, bstep k1 k9⟩
  · obtain ⟨K, hK⟩ : ∃ K : Nat, z % ((((row S 0).length : Nat) : Int) + 1) = (K : Int) := ⟨(z % ((((row S 0).length : Nat) : Int) + 1)).toNat, by
      have := Int.emod_nonneg z (show ((((row S 0).length : Nat) : Int) + 1) ≠ 0 by omega)
      omega⟩
    have hlt := Int.emod_lt_of_pos z (show (0 : Int) < (((row S 0).length : Nat) : Int) + 1 by omega)
    exact law9_ok a n c _ K S z w h hz hF (chkS_ok (fineB_ok hF)) hK (by omega)

end Go.Proofs.Ytbcnbchpcbglhaa
