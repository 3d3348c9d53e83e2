import Derived.Test.YtcmckcmckbdmhaaRows
import Derived.Test.YtcmckcmckbdmhaaBase
import Derived.Deep.QuietTactic
import Derived.BigQuiet
namespace Go.Proofs.Ytcmckcmckbdmhaa
open Go.RowKit Go.Ap

/-- Check's answer, from place k on. -/
def chkF (xs : List Int) : Nat → Nat → Int
  | 0, _ => 0
  | f + 1, k => if nth xs k < 0 ∨ 63 < nth xs k then 2 else if 0 < k ∧ nth xs k ≤ nth xs (k - 1) then 10 else chkF xs f (k + 1)
def chk (xs : List Int) : Int := chkF xs xs.length 0

theorem chkF_range {xs : List Int} {f k : Nat} (h : nth xs k < 0 ∨ 63 < nth xs k) : chkF xs (f + 1) k = 2 := by rw [chkF, if_pos h]
theorem chkF_order {xs : List Int} {f k : Nat} (h : ¬ (nth xs k < 0 ∨ 63 < nth xs k)) (h' : 0 < k ∧ nth xs k ≤ nth xs (k - 1)) : chkF xs (f + 1) k = 10 := by rw [chkF, if_neg h, if_pos h']
theorem chkF_next {xs : List Int} {f k : Nat} (h : ¬ (nth xs k < 0 ∨ 63 < nth xs k)) (h' : ¬ (0 < k ∧ nth xs k ≤ nth xs (k - 1))) : chkF xs (f + 1) k = chkF xs f (k + 1) := by rw [chkF, if_neg h, if_neg h']

set_option maxHeartbeats 400000 in
theorem check_any (a : Option Addr) (n c : Nat) (xs : List Int) (w : World) (h : Ints w a n xs) :
    Calls Try.prog 28 #[.slice a n c] w fun e w' => e = .returned (.int .i64 (chk xs)) ∧ w = w' := by
  have hlen := h.len
  have hsm := h.small
  have HL := Lib.hid hlen
  clear hlen
  go_enter Try.func28, Try.ntmps28
  go_wp2
  go_loop [7] (fun i => ∃ k : Nat, k ≤ n ∧ i = .int .i64 k ∧ chkF xs (n - k) k = chk xs) (fun i => n - (intOf i).toNat)
  case atStart => exact ⟨0, by omega, rfl, by unfold chk; rw [HL.out]; rfl⟩
  case round =>
    obtain ⟨k, hk, rfl, hch⟩ := hrel
    have HC := Lib.hid hch
    clear hch
    by_cases hlt : k < n
    · obtain ⟨b, off, rfl, hc⟩ := h.at (by omega)
      have hcell := hc k hlt
      have hcell' : 0 < k → w.cell? ⟨b, off + (k - 1), none⟩ = some (.int .i64 (nth xs (k - 1))) := fun _ => hc _ (by omega)
      clear hc
      obtain ⟨f, hf⟩ : ∃ f, n - k = f + 1 := ⟨n - k - 1, by omega⟩
      have HF := Lib.hid hf
      clear hf
      go_wp2
      all_goals first
        | (go_ret; exact ⟨ret_i (by rw [← HC.out, HF.out, chkF_range (by omega)]), rfl⟩)
        | (go_ret; exact ⟨ret_i (by rw [← HC.out, HF.out, chkF_order (by omega) (by omega)]), rfl⟩)
        | exact ⟨⟨k + 1, by omega, by go_num, by rw [← HC.out, HF.out, chkF_next (by omega) (by omega), show n - (k + 1) = f by have := HF.out; omega]⟩, by simp [intOf]; omega⟩
    · go_wp2
      go_ret
      exact ⟨ret_i (by rw [← HC.out, show n - k = 0 by omega, chkF]), rfl⟩

end Go.Proofs.Ytcmckcmckbdmhaa
