import Derived.Test.YtcmckcmckbdmhaaW1
namespace Go.Proofs.Ytcmckcmckbdmhaa
open Go.RowKit Go.Ap

set_option maxHeartbeats 400000 in
theorem refcheck_any (a : Option Addr) (n c : Nat) (xs : List Int) (w : World) (h : Ints w a n xs) :
    Calls Try.prog 41 #[.slice a n c] w fun e w' => e = .returned (.int .i64 (chk xs)) ∧ ∃ q, w' = w.drewN q := by
  have hlen := h.len
  have hsm := h.small
  have HL := Lib.hid hlen
  clear hlen
  go_enter Try.func41, Try.ntmps41
  go_wp2
  go_loopw [3] (fun i wr => ∃ (k q : Nat), k ≤ n ∧ i = .int .i64 k ∧ wr = w.drewN q ∧ chkF xs (n - k) k = chk xs) (fun i _ => n - (intOf i).toNat)
  case atStart => exact ⟨0, 0, by omega, rfl, rfl, by unfold chk; rw [HL.out]; rfl⟩
  case round =>
    obtain ⟨k, q, hk, rfl, rfl, hch⟩ := hrel
    have HC := Lib.hid hch
    clear hch
    by_cases hlt : k < n
    · obtain ⟨b, off, rfl, hc⟩ := h.at (by omega)
      have hcell := hc k hlt
      have hcell' : 0 < k → w.cell? ⟨b, off + (k - 1), none⟩ = some (.int .i64 (nth xs (k - 1))) := fun _ => hc _ (by omega)
      clear hc
      obtain ⟨f, hf⟩ : ∃ f, n - k = f + 1 := ⟨n - k - 1, by omega⟩
      have HF := Lib.hid hf
      clear hf
      by_cases h0 : 0 < k
      · have g1 : decide (0 < k) = true := by simpa using h0
        have hcell2 := hcell' h0
        go_wp2
        all_goals try (go_quiet (fail); go_wp2)
        all_goals first
        | (go_ret; exact ⟨ret_i (by rw [← HC.out, HF.out, chkF_range (by omega)]), q, rfl⟩)
        | (go_ret; exact ⟨ret_i (by rw [← HC.out, HF.out, chkF_order (by omega) (by omega)]), drewN_ex _ _ _⟩)
        | exact ⟨⟨k + 1, _, by omega, by go_num, rfl, by rw [← HC.out, HF.out, chkF_next (by omega) (by omega), show n - (k + 1) = f by have := HF.out; omega]⟩, by simp [intOf]; omega⟩
      · have g1 : decide (0 < k) = false := by simpa using h0
        go_wp2
        all_goals try (go_quiet (fail); go_wp2)
        all_goals first
        | (go_ret; exact ⟨ret_i (by rw [← HC.out, HF.out, chkF_range (by omega)]), q, rfl⟩)
        | (go_ret; exact ⟨ret_i (by rw [← HC.out, HF.out, chkF_order (by omega) (by omega)]), drewN_ex _ _ _⟩)
        | exact ⟨⟨k + 1, _, by omega, by go_num, rfl, by rw [← HC.out, HF.out, chkF_next (by omega) (by omega), show n - (k + 1) = f by have := HF.out; omega]⟩, by simp [intOf]; omega⟩
    · go_wp2
      go_ret
      exact ⟨ret_i (by rw [← HC.out, show n - k = 0 by omega, chkF]), _, rfl⟩

end Go.Proofs.Ytcmckcmckbdmhaa
