import Derived.Test.YtcmckcmckbdmhaaW3
namespace Go.Proofs.Ytcmckcmckbdmhaa
open Go.RowKit Go.Ap

theorem great20 (a : Option Addr) (n c : Nat) (w : World) (h : n ≤ 9223372036854775807) :
    Calls Try.prog 20 #[.slice a n c] w fun e w' => e = .returned (.bool (decide (12 < n))) ∧ w = w' := by
  go_enter Try.func20, Try.ntmps20
  go_wp2_with (fail)
  go_ret
  exact ⟨ret_b (by rw [decide_eq_decide]; omega), rfl⟩

/-- what 'fine' asks of no list -/
def bad1 (xs : List Int) : Bool := decide (12 < xs.length) || chk xs != 0

theorem fine43 (a : Option Addr) (n c : Nat) (xs : List Int) (w : World) (h : Ints w a n xs) :
    Calls Try.prog 43 #[.slice a n c] w fun e w' => e = .returned (.bool (bad1 xs)) ∧ ∃ q, w' = w.drewN q := by
  have hlen := h.len
  have hsm := h.small
  have HL := Lib.hid hlen
  clear hlen
  have H20 := Lib.hid (great20 a n c w (by omega))
  have H41 := Lib.hid (refcheck_any a n c xs w h)
  go_enter Try.func43, Try.ntmps43
  go_wp2_with (fail)
  refine (H20.out).mono ?_
  rintro e w' ⟨rfl, rfl⟩
  by_cases hg : 12 < n
  · have hb : bad1 xs = true := by unfold bad1; rw [HL.out]; simp [hg]
    have HB := Lib.hid hb
    clear hb
    go_wp2_with (fail)
    go_ret
    exact ⟨ret_b (by rw [HB.out]), _, drewN0 _⟩
  · have hb : bad1 xs = (chk xs != 0) := by unfold bad1; rw [HL.out]; simp [hg]
    have HB := Lib.hid hb
    clear hb
    go_wp2_with (fail)
    refine (H41.out).mono ?_
    rintro e w' ⟨rfl, q, rfl⟩
    go_wp2_with (fail)
    go_ret
    exact ⟨ret_b (by rw [HB.out]), _, rfl⟩

theorem fine11 (a : Option Addr) (n c : Nat) (xs : List (List Int)) (w : World) (h : Rows2 w a n xs) :
    Calls Try.prog 11 #[.slice a n c] w fun e w' => e = .returned (.bool (!xs.any bad1)) ∧ ∃ q, w' = w.drewN q := by
  have H := Lib.hid (contf42 bad1 a n c xs 43 #[] w h (enters_of Try.func43 (by kernel_rfl) rfl) (by
    rintro q x v hx ⟨a', n', c', rfl, hr⟩
    exact fine43 a' n' c' x _ hr.drewN))
  go_enter Try.func11, Try.ntmps11
  go_wp2_with (fail)
  refine (H.out).mono ?_
  rintro e w' ⟨rfl, q, rfl⟩
  go_wp2_with (fail)
  go_ret
  exact ⟨rfl, _, rfl⟩

end Go.Proofs.Ytcmckcmckbdmhaa
