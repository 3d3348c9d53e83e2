/-
  Check: why rules are not valid.
-/
import Derived.Test.YtamdonlncfmmmaaW3
namespace Go.Proofs.Ytamdonlncfmmmaa
open Go.RowKit Go.Ap Go.Shelf Go.Proofs
attribute [local go_sem] bs_toList empty_toList bs_size

set_option maxRecDepth 100000 in
set_option maxHeartbeats 2000000 in
theorem check30 (a : Option Addr) (n c : Nat) (rs : List Rule) (w : World) (h : Rls w a n rs) :
    Calls Try.prog 30 #[.slice a n c] w fun e w' => e = .returned (.int .i64 (chkR rs)) ∧ Below w.heap.size w w' := by
  have hsm := h.small
  have HL := Lib.hid h.len
  have HH := Lib.hid h
  clear h
  by_cases hn : 64 < n
  · have K : chkR rs = 4 := by rw [chkR, if_pos (by rw [HL.out]; exact hn)]
    rw [K]
    clear K
    have d : decide (64 < (n : Int)) = true := by simp; omega
    go_enter Try.func30, Try.ntmps30
    go_wp2_with (fail)
    go_ret
    exact ⟨rfl, Below.refl _ _⟩
  · have HK := Lib.hid (show chkR rs = badR rs by rw [chkR, if_neg (by rw [HL.out]; exact hn)])
    have d : decide (64 < (n : Int)) = false := by simp; omega
    go_enter Try.func30, Try.ntmps30
    go_wp2_with (fail)
    go_loopw [11] (fun i wr => ∃ k : Nat, k ≤ n ∧ i = .int .i64 k ∧ badR (rs.drop k) = badR rs ∧ Below w.heap.size w wr) (fun i _ => n - (intOf i).toNat)
    case atStart => exact ⟨0, Nat.zero_le _, rfl, rfl, Below.refl _ _⟩
    case round =>
      obtain ⟨k, hk, rfl, hb, hB⟩ := hrel
      have HBD := Lib.hid hb
      have HB := Lib.hid hB
      clear hb hB
      by_cases hlt : k < n
      · obtain ⟨x, b, off, hx, rfl, hc1, hc2, hl1, hl2⟩ := (HH.out.mono (Nat.le_refl _) HB.out).at hlt
        have HX := Lib.hid (badR_take hx HBD.out)
        clear hx
        go_wp2_with (fail)
        refine (right46 x.1 x.2 _ hl1 hl2).mono ?_
        rintro e w1 ⟨rfl, k1⟩
        have K1 := Lib.hid (bstep HB.out (bstep (balloc _ _) k1))
        have HXX := HX.out
        clear k1
        rw [show ((x.1, x.2) : Rule) = x from rfl]
        generalize rightB x = q at *
        by_cases hq : q = 0
        · subst hq
          have HD := Lib.hid (HXX.1 rfl)
          clear HXX
          go_wp2_with (fail)
          go_roundw
          case rel => exact ⟨k + 1, by omega, by go_num, HD.out, K1.out⟩
          case measure => simp [intOf]; omega
        · have HD := Lib.hid (HXX.2 hq)
          clear HXX
          have d1 : (q != 0) = true := by simpa using hq
          clear hq
          go_wp2_with (fail)
          go_ret
          exact ⟨ret_int (by rw [HK.out, HD.out]), K1.out⟩
      · obtain rfl : n = k := by omega
        go_wp2_with (fail)
        go_ret
        exact ⟨ret_int (by rw [HK.out, ← HBD.out, List.drop_eq_nil_of_le (by rw [HL.out]; omega)]; rfl), HB.out⟩

end Go.Proofs.Ytamdonlncfmmmaa
