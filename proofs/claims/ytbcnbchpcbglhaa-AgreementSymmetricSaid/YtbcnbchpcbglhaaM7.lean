/-
  AgreementSymmetric's law: the input may be unfit.
-/
import Derived.Test.YtbcnbchpcbglhaaL7
namespace Go.Proofs.Ytbcnbchpcbglhaa
open Go.RowKit Go.Ap Go.Shelf Go.Proofs

set_option maxRecDepth 200000 in
theorem law7 (a : Option Addr) (n c : Nat) (S : List (List Int)) (w : World) (h : Rows2 w a n S) :
    Calls Try.prog 7 #[.slice a n c] w fun e w' => e = .returned (.bool true) ∧ Below w.heap.size w w' := by
  have H21 := fine21b a n c S w h
  cases hF : fineB S
  · rw [hF] at H21
    have H21 := Lib.hid H21
    clear hF h
    go_enter Try.func7, Try.ntmps7
    go_wp2_with (fail)
    refine (H21.out).mono ?_
    rintro e w' ⟨rfl, k1⟩
    go_wp2_with (fail)
    refine (awake12 _).mono ?_
    rintro e w9 ⟨rfl, k9⟩
    go_wp2_with (fail)
    go_ret
    exact ⟨rfl, bstep k1 k9⟩
  · exact law7_ok a n c _ S w h hF (chkS_ok (fineB_ok hF))

end Go.Proofs.Ytbcnbchpcbglhaa
