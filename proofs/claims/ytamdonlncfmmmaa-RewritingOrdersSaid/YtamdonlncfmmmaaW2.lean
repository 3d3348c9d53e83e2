/-
  wordly and letters.
-/
import Derived.Test.YtamdonlncfmmmaaW1
import Derived.Test.YtamdonlncfmmmaaStrs
namespace Go.Proofs.Ytamdonlncfmmmaa
open Go.RowKit Go.Ap Go.Shelf Go.Proofs

theorem word_pre {s : ByteArray} {k : Nat} (h : k < s.size) : s.data.toList.take (k + 1) = s.data.toList.take k ++ [s[k]] := by
  rw [List.take_succ_eq_append_getElem (by simpa using h)]; rfl
theorem word_no {s : ByteArray} {k : Nat} (h : k < s.size) (hw : wch s[k] = false) : wordB s.data.toList = false := by
  rw [wordB, List.all_eq_false]
  exact ⟨s[k], by rw [show s[k] = s.data.toList[k]'(by simpa using h) from rfl]; exact List.getElem_mem _, by simp [hw]⟩
theorem kind_word (c : UInt8) : (wch c = true ∧ (kindOf (c.toNat : Int) = 1 ∨ kindOf (c.toNat : Int) = 2 ∨ kindOf (c.toNat : Int) = 3 ∨ kindOf (c.toNat : Int) = 4)) ∨ (wch c = false ∧ (kindOf (c.toNat : Int) == 1) = false ∧ (kindOf (c.toNat : Int) == 2) = false ∧ (kindOf (c.toNat : Int) == 3) = false ∧ (kindOf (c.toNat : Int) == 4) = false) := by
  have := kind_bound (c.toNat : Int)
  unfold wch
  by_cases h : 1 ≤ kindOf (c.toNat : Int) ∧ kindOf (c.toNat : Int) ≤ 4
  · left; exact ⟨by simpa using h, by omega⟩
  · right
    refine ⟨by simpa using h, ?_, ?_, ?_, ?_⟩ <;> (rw [beq_eq_false_iff_ne]; omega)

theorem word_yes {s : ByteArray} {k : Nat} {c : UInt8} (h : s.data.toList.take (k + 1) = s.data.toList.take k ++ [c]) (hw : wordB (s.data.toList.take k) = true) (hc : wch c = true) : wordB (s.data.toList.take (k + 1)) = true := by
  rw [h]
  simp only [wordB, List.all_append, Bool.and_eq_true] at hw ⊢
  exact ⟨hw, by simp [hc]⟩

set_option maxHeartbeats 1000000 in
theorem wordly53 (s : ByteArray) (w : World) (hs : s.size ≤ 4611686018427387903) : Calls Try.prog 53 #[.string s] w fun e w' => e = .returned (.bool (wordB s.data.toList)) ∧ w = w' := by
  have H67 := fun (k : Nat) (h : k < s.size) => kind67 (s[k].toNat : Int) w (by omega) (by have := s[k].toNat_lt; omega)
  have H67 := Lib.hid H67
  go_enter Try.func53, Try.ntmps53
  go_wp2_with (fail)
  go_loop [6] (fun i => ∃ k : Nat, k ≤ s.size ∧ i = .int .i64 k ∧ wordB (s.data.toList.take k) = true) (fun i => s.size - (intOf i).toNat)
  case atStart => exact ⟨0, Nat.zero_le _, rfl, rfl⟩
  case round =>
    obtain ⟨k, hk, rfl, hw⟩ := hrel
    have HW := Lib.hid hw
    clear hw
    by_cases hlt : k < s.size
    · have HP := Lib.hid (word_pre hlt)
      have h67 := H67.out k hlt
      have hkw := kind_word s[k]
      have HNO := Lib.hid (fun h => word_no hlt h)
      obtain ⟨q, hq⟩ : ∃ q, kindOf (s[k].toNat : Int) = q := ⟨_, rfl⟩
      rw [hq] at h67 hkw
      clear hq
      have H67' := Lib.hid h67
      have HKW := Lib.hid hkw
      clear h67 hkw
      go_wp2_with (fail)
      refine H67'.out.mono ?_
      rintro e w' ⟨rfl, rfl⟩
      clear H67'
      rcases HKW.out with ⟨hy, rfl | rfl | rfl | rfl⟩ | ⟨hn, e1, e2, e3, e4⟩
      · have HY := Lib.hid hy
        clear hy
        go_wp2_with (fail)
        go_round
        case rel => exact ⟨k + 1, by omega, by go_num, word_yes HP.out HW.out HY.out⟩
        case measure => simp [intOf]; omega
      · have HY := Lib.hid hy
        clear hy
        go_wp2_with (fail)
        go_round
        case rel => exact ⟨k + 1, by omega, by go_num, word_yes HP.out HW.out HY.out⟩
        case measure => simp [intOf]; omega
      · have HY := Lib.hid hy
        clear hy
        go_wp2_with (fail)
        go_round
        case rel => exact ⟨k + 1, by omega, by go_num, word_yes HP.out HW.out HY.out⟩
        case measure => simp [intOf]; omega
      · have HY := Lib.hid hy
        clear hy
        go_wp2_with (fail)
        go_round
        case rel => exact ⟨k + 1, by omega, by go_num, word_yes HP.out HW.out HY.out⟩
        case measure => simp [intOf]; omega
      · have HNO2 := Lib.hid (HNO.out hn)
        clear hn
        go_wp2_with (fail)
        go_ret
        exact ⟨ret_b HNO2.out.symm, rfl⟩
    · obtain rfl : s.size = k := by omega
      go_wp2_with (fail)
      go_ret
      exact ⟨ret_b (by rw [← HW.out, List.take_of_length_le (by simp)]), rfl⟩

set_option maxHeartbeats 1000000 in
theorem letters47 (s : ByteArray) (w : World) (hs : s.size ≤ 4611686018427387903) : Calls Try.prog 47 #[.string s] w fun e w' => e = .returned (.bool (wordB s.data.toList)) ∧ w = w' := by
  have H67 := fun (k : Nat) (h : k < s.size) => kind63 (s[k].toNat : Int) w (by omega) (by have := s[k].toNat_lt; omega)
  have H67 := Lib.hid H67
  go_enter Try.func47, Try.ntmps47
  go_wp2_with (fail)
  go_loop [3] (fun i => ∃ k : Nat, k ≤ s.size ∧ i = .int .i64 k ∧ wordB (s.data.toList.take k) = true) (fun i => s.size - (intOf i).toNat)
  case atStart => exact ⟨0, Nat.zero_le _, rfl, rfl⟩
  case round =>
    obtain ⟨k, hk, rfl, hw⟩ := hrel
    have HW := Lib.hid hw
    clear hw
    by_cases hlt : k < s.size
    · have HP := Lib.hid (word_pre hlt)
      have h67 := H67.out k hlt
      have hkw := kind_word s[k]
      have HNO := Lib.hid (fun h => word_no hlt h)
      obtain ⟨q, hq⟩ : ∃ q, kindOf (s[k].toNat : Int) = q := ⟨_, rfl⟩
      rw [hq] at h67 hkw
      clear hq
      have H67' := Lib.hid h67
      have HKW := Lib.hid hkw
      clear h67 hkw
      go_wp2_with (fail)
      refine H67'.out.mono ?_
      rintro e w' ⟨rfl, rfl⟩
      clear H67'
      rcases HKW.out with ⟨hy, rfl | rfl | rfl | rfl⟩ | ⟨hn, e1, e2, e3, e4⟩
      · have HY := Lib.hid hy
        clear hy
        go_wp2_with (fail)
        go_round
        case rel => exact ⟨k + 1, by omega, by go_num, word_yes HP.out HW.out HY.out⟩
        case measure => simp [intOf]; omega
      · have HY := Lib.hid hy
        clear hy
        go_wp2_with (fail)
        go_round
        case rel => exact ⟨k + 1, by omega, by go_num, word_yes HP.out HW.out HY.out⟩
        case measure => simp [intOf]; omega
      · have HY := Lib.hid hy
        clear hy
        go_wp2_with (fail)
        go_round
        case rel => exact ⟨k + 1, by omega, by go_num, word_yes HP.out HW.out HY.out⟩
        case measure => simp [intOf]; omega
      · have HY := Lib.hid hy
        clear hy
        go_wp2_with (fail)
        go_round
        case rel => exact ⟨k + 1, by omega, by go_num, word_yes HP.out HW.out HY.out⟩
        case measure => simp [intOf]; omega
      · have HNO2 := Lib.hid (HNO.out hn)
        clear hn
        have g1 : (q != 1) = true := by simpa using e1
        have g2 : (q != 2) = true := by simpa using e2
        have g3 : (q != 3) = true := by simpa using e3
        have g4 : (q != 4) = true := by simpa using e4
        go_wp2_with (fail)
        go_ret
        exact ⟨ret_b HNO2.out.symm, rfl⟩
    · obtain rfl : s.size = k := by omega
      go_wp2_with (fail)
      go_ret
      exact ⟨ret_b (by rw [← HW.out, List.take_of_length_le (by simp)]), rfl⟩

end Go.Proofs.Ytamdonlncfmmmaa
