import Derived.Test.YtcmckcmckbdmhaaW8
import Derived.Test.YtcmckcmckbdmhaaBits
namespace Go.Proofs.Ytcmckcmckbdmhaa
open Go.RowKit Go.Ap Go.Shelf

set_option maxHeartbeats 400000 in
theorem bits55 (a : Option Addr) (n c : Nat) (xs : List Int) (w : World) (h : Ints w a n xs) (hs : ∀ x ∈ xs, 0 ≤ x ∧ x ≤ 63) :
    Calls Try.prog 55 #[.slice a n c] w fun e w' => e = .returned (.int .u64 (bitsN xs : Nat)) ∧ w = w' := by
  have hlen := h.len
  have hsm := h.small
  have HL := Lib.hid hlen
  have HS := Lib.hid hs
  clear hlen hs
  go_enter Try.func55, Try.ntmps55
  go_wp2
  go_loop [3, 8] (fun t i => ∃ k : Nat, k ≤ n ∧ i = .int .i64 k ∧ t = .int .u64 (bitsN (xs.take k) : Nat)) (fun _ i => n - (intOf i).toNat)
  case atStart => exact ⟨0, by omega, rfl, rfl⟩
  case round =>
    obtain ⟨k, hk, rfl, rfl⟩ := hrel
    by_cases hlt : k < n
    · obtain ⟨b, off, rfl, hc⟩ := h.at (by omega)
      have hcell := hc k hlt
      clear hc
      have hx := HS.out _ (nth_mem (xs := xs) (k := k) (by rw [HL.out]; exact hlt))
      have hx0 := hx.1
      have hx1 := hx.2
      clear hx
      have hlt64 : bitsN (xs.take k) < 2 ^ 64 := bitsN_lt _ (fun x hx => HS.out x (List.mem_of_mem_take hx))
      have hsn : bitsN (xs.take (k + 1)) = bitsN (xs.take k) ||| 2 ^ (nth xs k).toNat := by
        have hk' : k < xs.length := by rw [HL.out]; exact hlt
        rw [List.take_succ_eq_append_getElem hk', bitsN_snoc, nth_eq hk']
      have HN := Lib.hid hsn
      clear hsn
      generalize bitsN (xs.take k) = t at *
      go_wp2
      exact ⟨⟨k + 1, by omega, by go_num, by rw [HN.out, or_shift_u64 t _ (by omega) (by omega)]⟩, by simp [intOf]; omega⟩
    · go_wp2
      go_ret
      exact ⟨ret_i (by rw [List.take_of_length_le (by rw [HL.out]; omega)]), rfl⟩

end Go.Proofs.Ytcmckcmckbdmhaa
