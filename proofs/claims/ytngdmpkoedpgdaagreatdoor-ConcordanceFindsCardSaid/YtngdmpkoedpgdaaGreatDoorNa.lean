import Derived.Test.YtngdmpkoedpgdaaGreatDoorKi
import Derived.Test.YtngdmpkoedpgdaaGreatDoorPl
import Derived.RangeFuncBox
import Derived.Maps.AppendAt
import Derived.Stop.RegionWithIn

/-
  Tests of a character; letters are counted; names; the Norm of a word; marks.
-/


namespace Go.Proofs.YtngdmpkoedpgdaaGreatDoor
open Go.RowKit Go.Ap Go.Shelf Go.Proofs

theorem ext_drop {s : Str} {i : Nat} : (bs s).extract i s.length = bs (s.drop i) := by
  rw [bs_extract, List.take_of_length_le (by simp)]
theorem ext_take {s : Str} {i : Nat} : (bs s).extract 0 i = bs (s.take i) := by
  rw [bs_extract, List.drop_zero, Nat.sub_zero]
attribute [local go_sem] Oper.semAt_some bs_toList empty_toList bs_size ext_drop ext_take bs_append

theorem wk_seven (c : UInt8) : wk c = 0 ∨ wk c = 1 ∨ wk c = 2 ∨ wk c = 3 ∨ wk c = 4 ∨ wk c = 5 ∨ wk c = 6 := by have := wk_rng c; omega
theorem kindPc (c : UInt8) (w : World) : Calls Tryz.prog 122 #[.int .u8 (c.toNat : Int)] w fun e w' => e = .returned (.int .i64 (wk c)) ∧ w = w' := kindP _ w (by omega) (by have := c.toNat_lt; omega)
theorem kindRc (c : UInt8) (w : World) : Calls Tryz.prog 68 #[.int .u8 (c.toNat : Int)] w fun e w' => e = .returned (.int .i64 (wk c)) ∧ w = w' := kindR _ w (by omega) (by have := c.toNat_lt; omega)
theorem word_pre {s : ByteArray} {k : Nat} (h : k < s.size) : s.data.toList.take (k + 1) = s.data.toList.take k ++ [s[k]] := by
  rw [List.take_succ_eq_append_getElem (by simpa using h)]; rfl

def letBK (k : Int) : Bool := decide (k = 1) || decide (k = 3)
def wchK (k : Int) : Bool := decide (1 ≤ k ∧ k ≤ 4)
def pspB (c : UInt8) : Bool := decide (wk c = 5) || decide (wk c = 6)
def pspBK (k : Int) : Bool := decide (k = 5) || decide (k = 6)

set_option maxHeartbeats 1000000 in
theorem beginsP (c : UInt8) (w : World) : Calls Tryz.prog 266 #[.int .u8 (c.toNat : Int)] w fun e w' => e = .returned (.bool (letB c)) ∧ w = w' := by
  have H := Lib.hid (kindPc c w)
  have HP := Lib.hid (show letB c = letBK (wk c) from rfl)
  rw [HP.out]
  have HS := wk_seven c
  clear HP
  generalize wk c = k at *
  rcases HS with rfl | rfl | rfl | rfl | rfl | rfl | rfl
  all_goals
    go_enter Tryz.func266, Tryz.ntmps266
    go_wp2_with (fail)
    refine H.out.mono ?_
    rintro e w1 ⟨rfl, rfl⟩
    go_wp2_with (fail)
    go_ret
    exact ⟨rfl, rfl⟩
set_option maxHeartbeats 1000000 in
theorem innerP (c : UInt8) (w : World) : Calls Tryz.prog 256 #[.int .u8 (c.toNat : Int)] w fun e w' => e = .returned (.bool (wch c)) ∧ w = w' := by
  have H := Lib.hid (kindPc c w)
  have H2 := Lib.hid (beginsP c w)
  have HQ := Lib.hid (show letB c = letBK (wk c) from rfl)
  rw [HQ.out] at H2
  clear HQ
  have HP := Lib.hid (show wch c = wchK (wk c) from rfl)
  rw [HP.out]
  have HS := wk_seven c
  clear HP
  generalize wk c = k at *
  rcases HS with rfl | rfl | rfl | rfl | rfl | rfl | rfl
  all_goals
    go_enter Tryz.func256, Tryz.ntmps256
    go_wp2_with (fail)
    refine H.out.mono ?_
    rintro e w1 ⟨rfl, rfl⟩
    go_wp2_with (fail)
    refine H2.out.mono ?_
    rintro e w1 ⟨rfl, rfl⟩
    go_wp2_with (fail)
    go_ret
    exact ⟨rfl, rfl⟩
set_option maxHeartbeats 1000000 in
theorem wordlyR (c : UInt8) (w : World) : Calls Tryz.prog 187 #[.int .u8 (c.toNat : Int)] w fun e w' => e = .returned (.bool (wch c)) ∧ w = w' := by
  have H := Lib.hid (kindRc c w)
  have HP := Lib.hid (show wch c = wchK (wk c) from rfl)
  rw [HP.out]
  have HS := wk_seven c
  clear HP
  generalize wk c = k at *
  rcases HS with rfl | rfl | rfl | rfl | rfl | rfl | rfl
  all_goals
    go_enter Tryz.func187, Tryz.ntmps187
    go_wp2_with (fail)
    refine H.out.mono ?_
    rintro e w1 ⟨rfl, rfl⟩
    go_wp2_with (fail)
    go_ret
    exact ⟨rfl, rfl⟩
set_option maxHeartbeats 1000000 in
theorem isword1 (c : UInt8) (w : World) : Calls Tryz.prog 123 #[.int .u8 (c.toNat : Int)] w fun e w' => e = .returned (.bool (pspB c)) ∧ w = w' := by
  have H := Lib.hid (kindPc c w)
  have HP := Lib.hid (show pspB c = pspBK (wk c) from rfl)
  rw [HP.out]
  have HS := wk_seven c
  clear HP
  generalize wk c = k at *
  rcases HS with rfl | rfl | rfl | rfl | rfl | rfl | rfl
  all_goals
    go_enter Tryz.func123, Tryz.ntmps123
    go_wp2_with (fail)
    refine H.out.mono ?_
    rintro e w1 ⟨rfl, rfl⟩
    go_wp2_with (fail)
    go_ret
    exact ⟨rfl, rfl⟩

theorem letters_snoc {s : ByteArray} {k : Nat} (h : k < s.size) : lettersN (s.data.toList.take (k + 1)) = lettersN (s.data.toList.take k) + if letB s[k] = true then 1 else 0 := by
  unfold lettersN
  rw [word_pre h, List.countP_append, List.countP_cons, List.countP_nil, Nat.zero_add]
theorem letters_le (s : Str) : lettersN s ≤ s.length := List.countP_le_length
theorem letters_all (s : Str) : decide (lettersN s = s.length) = s.all letB := by
  rw [Bool.eq_iff_iff, decide_eq_true_eq, List.all_eq_true]
  exact List.countP_eq_length

set_option maxHeartbeats 1000000 in
theorem lettersP (s : ByteArray) (w : World) (hs : s.size ≤ 4611686018427387903) : Calls Tryz.prog 119 #[.string s] w fun e w' => e = .returned (.int .i64 (lettersN s.data.toList)) ∧ w = w' := by
  have HK := Lib.hid (fun (k : Nat) (h : k < s.size) => kindPc s[k] w)
  go_enter Tryz.func119, Tryz.ntmps119
  go_wp2_with (fail)
  go_loop [3, 8] (fun nv iv => ∃ k : Nat, k ≤ s.size ∧ iv = .int .i64 k ∧ nv = .int .i64 (lettersN (s.data.toList.take k))) (fun _ iv => s.size - (intOf iv).toNat)
  case atStart => exact ⟨0, Nat.zero_le _, rfl, by simp [lettersN]⟩
  case round =>
    obtain ⟨k, hk, rfl, rfl⟩ := hrel
    by_cases hlt : k < s.size
    · have h1 := HK.out k hlt
      have HSN := Lib.hid (letters_snoc hlt)
      have hle := letters_le (s.data.toList.take k)
      rw [List.length_take] at hle
      generalize lettersN (s.data.toList.take k) = m at *
      have hm : m ≤ k := by omega
      clear hle
      cases hc : letB s[k]
      all_goals
        have HC := Lib.hid hc
        unfold letB at hc
        obtain ⟨q, hq⟩ : ∃ q, wk s[k] = q := ⟨_, rfl⟩
        rw [hq] at hc h1
        have H1 := Lib.hid h1
        clear hq h1
        simp only [Bool.or_eq_true, Bool.or_eq_false_iff, decide_eq_true_eq, decide_eq_false_iff_not] at hc
      · have e1 : (q == 1) = false := by rw [beq_eq_false_iff_ne]; exact hc.1
        have e3 : (q == 3) = false := by rw [beq_eq_false_iff_ne]; exact hc.2
        clear hc
        go_wp2_with (fail)
        refine H1.out.mono ?_
        rintro e w1 ⟨rfl, rfl⟩
        go_wp2_with (fail)
        go_round
        case rel => exact ⟨k + 1, by omega, by go_num, by rw [HSN.out, HC.out]; simp⟩
        case measure => simp [intOf]; omega
      · rcases hc with rfl | rfl
        all_goals
          go_wp2_with (fail)
          refine H1.out.mono ?_
          rintro e w1 ⟨rfl, rfl⟩
          go_wp2_with (fail)
          go_round
          case rel => exact ⟨k + 1, by omega, by go_num, by rw [HSN.out, HC.out]; simp⟩
          case measure => simp [intOf]; omega
    · obtain rfl : s.size = k := by omega
      go_wp2_with (fail)
      go_ret
      exact ⟨ret_i (by rw [List.take_of_length_le (by simp)]), rfl⟩
set_option maxHeartbeats 1000000 in
theorem lettersR (s : ByteArray) (w : World) (hs : s.size ≤ 4611686018427387903) : Calls Tryz.prog 66 #[.string s] w fun e w' => e = .returned (.int .i64 (lettersN s.data.toList)) ∧ w = w' := by
  have HK := Lib.hid (fun (k : Nat) (h : k < s.size) => kindRc s[k] w)
  go_enter Tryz.func66, Tryz.ntmps66
  go_wp2_with (fail)
  go_loop [3, 4] (fun nv iv => ∃ k : Nat, k ≤ s.size ∧ iv = .int .i64 k ∧ nv = .int .i64 (lettersN (s.data.toList.take k))) (fun _ iv => s.size - (intOf iv).toNat)
  case atStart => exact ⟨0, Nat.zero_le _, rfl, by simp [lettersN]⟩
  case round =>
    obtain ⟨k, hk, rfl, rfl⟩ := hrel
    by_cases hlt : k < s.size
    · have h1 := HK.out k hlt
      have HSN := Lib.hid (letters_snoc hlt)
      have hle := letters_le (s.data.toList.take k)
      rw [List.length_take] at hle
      generalize lettersN (s.data.toList.take k) = m at *
      have hm : m ≤ k := by omega
      clear hle
      cases hc : letB s[k]
      all_goals
        have HC := Lib.hid hc
        unfold letB at hc
        obtain ⟨q, hq⟩ : ∃ q, wk s[k] = q := ⟨_, rfl⟩
        rw [hq] at hc h1
        have H1 := Lib.hid h1
        clear hq h1
        simp only [Bool.or_eq_true, Bool.or_eq_false_iff, decide_eq_true_eq, decide_eq_false_iff_not] at hc
      · have e1 : (q == 1) = false := by rw [beq_eq_false_iff_ne]; exact hc.1
        have e3 : (q == 3) = false := by rw [beq_eq_false_iff_ne]; exact hc.2
        clear hc
        go_wp2_with (fail)
        refine H1.out.mono ?_
        rintro e w1 ⟨rfl, rfl⟩
        go_wp2_with (fail)
        go_round
        case rel => exact ⟨k + 1, by omega, by go_num, by rw [HSN.out, HC.out]; simp⟩
        case measure => simp [intOf]; omega
      · rcases hc with rfl | rfl
        all_goals
          go_wp2_with (fail)
          refine H1.out.mono ?_
          rintro e w1 ⟨rfl, rfl⟩
          go_wp2_with (fail)
          go_round
          case rel => exact ⟨k + 1, by omega, by go_num, by rw [HSN.out, HC.out]; simp⟩
          case measure => simp [intOf]; omega
    · obtain rfl : s.size = k := by omega
      go_wp2_with (fail)
      go_ret
      exact ⟨ret_i (by rw [List.take_of_length_le (by simp)]), rfl⟩
end Go.Proofs.YtngdmpkoedpgdaaGreatDoor

/-
  Names, marks, the Norm of a word, as the program tests them.
-/

namespace Go.Proofs.YtngdmpkoedpgdaaGreatDoor
open Go.RowKit Go.Ap Go.Shelf Go.Proofs

attribute [local go_sem] Oper.semAt_some bs_toList empty_toList bs_size ext_drop ext_take bs_append

theorem lettersPs (s : Str) (w : World) (hs : s.length ≤ 4611686018427387903) : Calls Tryz.prog 119 #[.string (bs s)] w fun e w' => e = .returned (.int .i64 (lettersN s)) ∧ w = w' := lettersP (bs s) w (by rw [bs_size]; exact hs)
theorem lettersRs (s : Str) (w : World) (hs : s.length ≤ 4611686018427387903) : Calls Tryz.prog 66 #[.string (bs s)] w fun e w' => e = .returned (.int .i64 (lettersN s)) ∧ w = w' := lettersR (bs s) w (by rw [bs_size]; exact hs)
theorem len_pos {s : Str} (h : s ≠ []) : 0 < s.length := List.length_pos_iff.2 h

set_option maxHeartbeats 1000000 in
theorem nameP (s : Str) (w : World) (hs : s.length ≤ 4611686018427387903) : Calls Tryz.prog 60 #[.string (bs s)] w fun e w' => e = .returned (.bool (nameB s)) ∧ w = w' := by
  have HL := Lib.hid (lettersPs s w hs)
  by_cases h0 : s = []
  · subst h0
    go_enter Tryz.func60, Tryz.ntmps60
    go_wp2_with (fail)
    go_ret
    exact ⟨rfl, rfl⟩
  · have e1 : (s == []) = false := by simpa using h0
    have e2 : s.isEmpty = false := by simpa using h0
    by_cases h16 : s.length ≤ 16
    · have d1 : decide ((s.length : Int) ≤ 16) = true := by simp; omega
      have hall := letters_all s
      have HR := Lib.hid (show nameB s = s.all letB by simp [nameB, h0, h16])
      have hle := letters_le s
      generalize lettersN s = m at *
      have eb1 : ((m : Int) == (s.length : Int)) = s.all letB := by rw [← hall, Bool.eq_iff_iff, beq_iff_eq, decide_eq_true_eq]; omega
      have eb2 : (m == s.length) = s.all letB := by rw [← hall, Bool.eq_iff_iff, beq_iff_eq, decide_eq_true_eq]
      clear hall h0 h16 hle
      generalize s.all letB = b at *
      go_enter Tryz.func60, Tryz.ntmps60
      go_wp2_with (fail)
      refine HL.out.mono ?_
      rintro e w1 ⟨rfl, rfl⟩
      go_wp2_with (fail)
      go_ret
      exact ⟨ret_b HR.out.symm, rfl⟩
    · have d1 : decide ((s.length : Int) ≤ 16) = false := by simp; omega
      have HR := Lib.hid (show nameB s = false by simp [nameB, h16])
      clear h0 h16
      go_enter Tryz.func60, Tryz.ntmps60
      go_wp2_with (fail)
      go_ret
      exact ⟨ret_b HR.out.symm, rfl⟩
set_option maxHeartbeats 1000000 in
theorem namedP (s : Str) (w : World) (hs : s.length ≤ 4611686018427387903) : Calls Tryz.prog 238 #[.string (bs s)] w fun e w' => e = .returned (.bool (namedB s)) ∧ w = w' := by
  have HL := Lib.hid (nameP s w hs)
  by_cases h0 : s = []
  · subst h0
    go_enter Tryz.func238, Tryz.ntmps238
    go_wp2_with (fail)
    go_ret
    exact ⟨rfl, rfl⟩
  · have e1 : (s == []) = false := by simpa using h0
    have e2 : s.isEmpty = false := by simpa using h0
    have HR := Lib.hid (show namedB s = nameB s by simp [namedB, h0])
    clear h0
    go_enter Tryz.func238, Tryz.ntmps238
    go_wp2_with (fail)
    refine HL.out.mono ?_
    rintro e w1 ⟨rfl, rfl⟩
    go_wp2_with (fail)
    go_ret
    exact ⟨ret_b HR.out.symm, rfl⟩

def markK (k : Int) : Bool := decide (k = 5) || decide (k = 4)
set_option maxHeartbeats 1000000 in
theorem markP (s : Str) (w : World) (hs : s.length ≤ 4611686018427387903) : Calls Tryz.prog 235 #[.string (bs s)] w fun e w' => e = .returned (.bool (markB s)) ∧ w = w' := by
  match s with
  | [] =>
    go_enter Tryz.func235, Tryz.ntmps235
    go_wp2_with (fail)
    go_ret
    exact ⟨rfl, rfl⟩
  | [c] =>
    have HR := Lib.hid (show markB [c] = markK (wk c) from rfl)
    have HK := Lib.hid (kindPc c w)
    have HS := wk_seven c
    rw [HR.out]
    clear HR
    generalize hk : wk c = k at *
    clear hk
    rcases HS with rfl | rfl | rfl | rfl | rfl | rfl | rfl
    all_goals
      go_enter Tryz.func235, Tryz.ntmps235
      go_wp2_with (fail)
      refine HK.out.mono ?_
      rintro e w1 ⟨rfl, rfl⟩
      go_wp2_with (fail)
      go_ret
      exact ⟨rfl, rfl⟩
  | c :: d :: t =>
    have HR := Lib.hid (show markB (c :: d :: t) = false from rfl)
    obtain ⟨l, hl⟩ : ∃ l, c :: d :: t = l := ⟨_, rfl⟩
    have h2 : 2 ≤ l.length := by rw [← hl]; simp
    rw [hl] at HR ⊢
    have e1 : ((l.length : Int) != 1) = true := by rw [bne_iff_ne]; omega
    have e2 : (l.length != 1) = true := by rw [bne_iff_ne]; omega
    clear hl hs
    go_enter Tryz.func235, Tryz.ntmps235
    go_wp2_with (fail)
    go_ret
    exact ⟨ret_b HR.out.symm, rfl⟩
theorem word_no {s : ByteArray} {k : Nat} (h : k < s.size) (hw : wch s[k] = false) : wordB s.data.toList = false := by
  rw [wordB, List.all_eq_false]
  exact ⟨s[k], by rw [show s[k] = s.data.toList[k]'(by simpa using h) from rfl]; exact List.getElem_mem _, by simp [hw]⟩
theorem word_yes {s : ByteArray} {k : Nat} (h : k < s.size) (hw : wordB (s.data.toList.take k) = true) (hc : wch s[k] = true) : wordB (s.data.toList.take (k + 1)) = true := by
  rw [word_pre h]
  simp only [wordB, List.all_append, Bool.and_eq_true] at hw ⊢
  exact ⟨hw, by simp [hc]⟩
set_option maxHeartbeats 1000000 in
theorem normPb (s : ByteArray) (w : World) (hs : s.size ≤ 4611686018427387903) : Calls Tryz.prog 237 #[.string s] w fun e w' => e = .returned (.bool (normB s.data.toList)) ∧ w = w' := by
  have HK := Lib.hid (fun (k : Nat) (h : k < s.size) => innerP s[k] w)
  have HZ := Lib.hid (show s.data.toList.length = s.size from rfl)
  have HT := Lib.hid (ByteArray.toList_eq (bs := s))
  go_enter Tryz.func237, Tryz.ntmps237
  go_wp2_with (fail)
  go_loop [6] (fun i => ∃ k : Nat, k ≤ s.size ∧ i = .int .i64 k ∧ wordB (s.data.toList.take k) = true) (fun i => s.size - (intOf i).toNat)
  case atStart => exact ⟨0, Nat.zero_le _, rfl, rfl⟩
  case round =>
    obtain ⟨k, hk, rfl, hw⟩ := hrel
    have HW := Lib.hid hw
    clear hw
    by_cases hlt : k < s.size
    · have h1 := HK.out k hlt
      have HNO := Lib.hid (fun h => word_no hlt h)
      have HYE := Lib.hid (fun h => word_yes hlt HW.out h)
      obtain ⟨b, hb⟩ : ∃ b, wch s[k] = b := ⟨_, rfl⟩
      rw [hb] at h1
      have HB := Lib.hid hb
      have H1 := Lib.hid h1
      clear hb h1
      cases b
      · have HR := Lib.hid (show normB s.data.toList = false by simp [normB, HNO.out HB.out])
        go_wp2_with (fail)
        refine H1.out.mono ?_
        rintro e w1 ⟨rfl, rfl⟩
        go_wp2_with (fail)
        go_ret
        exact ⟨ret_b HR.out.symm, rfl⟩
      · go_wp2_with (fail)
        refine H1.out.mono ?_
        rintro e w1 ⟨rfl, rfl⟩
        go_wp2_with (fail)
        go_round
        case rel => exact ⟨k + 1, by omega, by go_num, HYE.out HB.out⟩
        case measure => simp [intOf]; omega
    · obtain rfl : s.size = k := by omega
      have hwa : wordB s.data.toList = true := by rw [← HW.out, List.take_of_length_le (by simp)]
      by_cases h0 : s.data.toList = []
      · have HR := Lib.hid (show normB s.data.toList = false by simp [normB, h0])
        have e0 : s.toList = [] := by rw [HT.out]; exact h0
        have e1 : (s.toList == []) = true := by rw [e0]; rfl
        have e2 : s.toList.isEmpty = true := by rw [e0]; rfl
        clear h0 hwa
        have E0 := Lib.hid e0
        clear e0
        go_wp2_with (fail)
        go_ret
        exact ⟨ret_b HR.out.symm, rfl⟩
      · have e1 : (s.toList == []) = false := by rw [HT.out]; simpa using h0
        have e2 : s.toList.isEmpty = false := by rw [HT.out]; simpa using h0
        have HR := Lib.hid (show normB s.data.toList = decide (s.size ≤ 64) by
          show (decide (s.data.toList ≠ []) && decide (s.data.toList.length ≤ 64) && wordB s.data.toList) = decide (s.size ≤ 64)
          rw [hwa, HZ.out, decide_eq_true h0]; simp)
        clear h0 hwa
        by_cases h64 : s.size ≤ 64
        · have d1 : decide ((s.size : Int) ≤ 64) = true := by simp; omega
          have HR2 := Lib.hid (show normB s.data.toList = true by rw [HR.out]; simpa using h64)
          clear h64
          go_wp2_with (fail)
          go_ret
          exact ⟨ret_b HR2.out.symm, rfl⟩
        · have d1 : decide ((s.size : Int) ≤ 64) = false := by simp; omega
          have HR2 := Lib.hid (show normB s.data.toList = false by rw [HR.out]; simpa using h64)
          clear h64
          go_wp2_with (fail)
          go_ret
          exact ⟨ret_b HR2.out.symm, rfl⟩
theorem normP (s : Str) (w : World) (hs : s.length ≤ 4611686018427387903) : Calls Tryz.prog 237 #[.string (bs s)] w fun e w' => e = .returned (.bool (normB s)) ∧ w = w' := normPb (bs s) w (by rw [bs_size]; exact hs)
end Go.Proofs.YtngdmpkoedpgdaaGreatDoor

/-
  What an iterator asks of its consumer; boxes.
-/





namespace Go.Proofs.YtngdmpkoedpgdaaGreatDoor
open Go.RowKit Go.Ap Go.Shelf Go.Proofs

/-- what an iterator over the caller's blocks asks of its consumer: the blocks below e, and its own two boxes, stay as they are -/
structure KeepR (e b1 b2 : Nat) (A C : World) : Prop where
  os : C.os = A.os
  tape : C.tape = A.tape
  output : C.output = A.output
  size : A.heap.size ≤ C.heap.size
  block : ∀ k, (k < e ∨ k = b1 ∨ k = b2) → C.heap[k]? = A.heap[k]?
section
variable {e b1 b2 : Nat} {A C D : World}
theorem KeepR.refl (e b1 b2 : Nat) (A : World) : KeepR e b1 b2 A A := ⟨rfl, rfl, rfl, Nat.le_refl _, fun _ _ => rfl⟩
theorem KeepR.trans (h : KeepR e b1 b2 A C) (k : KeepR e b1 b2 C D) : KeepR e b1 b2 A D :=
  ⟨k.os.trans h.os, k.tape.trans h.tape, k.output.trans h.output, Nat.le_trans h.size k.size, fun i hi => (k.block i hi).trans (h.block i hi)⟩
theorem KeepR.of_below {n : Nat} (h : Below n A C) (he : e ≤ n) (h1 : b1 < n) (h2 : b2 < n) : KeepR e b1 b2 A C := ⟨h.os, h.tape, h.output, h.size, fun k hk => h.block k (by omega)⟩
theorem KeepR.below (h : KeepR e b1 b2 A C) : Below e A C := ⟨h.os, h.tape, h.output, h.size, fun k hk => h.block k (.inl hk)⟩
theorem KeepR.cell (h : KeepR e b1 b2 A C) {b o : Nat} (hb : b < e ∨ b = b1 ∨ b = b2) : C.cell? ⟨b, o, none⟩ = A.cell? ⟨b, o, none⟩ := World.cell?_of_block (w := A) (h.block b hb)
theorem keepR_b {w : World} (he : e ≤ w.heap.size) (h1 : b1 < w.heap.size) (h2 : b2 < w.heap.size) (W : World) (l : Nat) (o o' : Obj) (hl : w.heap.size ≤ l) (h : W.heap[l]? = some o) (hc : o.isCells = false) (hw : o.isWalk = false) : KeepR e b1 b2 W (W.putObj l o') :=
  .of_below (belowK_b (w := w) (Nat.le_refl _) W l o o' hl h hc hw) he h1 h2
end
theorem grown_drewN (W : World) (q : Nat) : W.grownBy (W.drewN q) none := ⟨rfl, rfl, rfl, Nat.le_refl _, fun _ _ _ => rfl⟩
theorem KeepR.drewN {e b1 b2 : Nat} (W : World) (q : Nat) : KeepR e b1 b2 W (W.drewN q) := ⟨rfl, rfl, rfl, Nat.le_refl _, fun _ _ => rfl⟩
theorem cell_keep {w w' : World} {p : Addr} {v : Value} (hb : Below w.heap.size w w') (h : w.cell? p = some v) : w'.cell? p = some v := (hb.cell (World.block_lt_of_cell? w p h)).trans h
theorem boxed_k {B B' : Nat} {t : TypeId} {v : Value} {X Y : World} {row : Option Nat} (h : Boxed X B t v) (hg : X.grownBy Y row) (hr : ∀ r, row = some r → B' ≤ r ∧ ∃ o : Obj, X.heap[r]? = some o ∧ o.isCells = false) : Boxed Y B t v :=
  (boxed_own B t (fun _ : Unit => v)).from B' () X Y row h hg hr
theorem boxed_below {B : Nat} {t : TypeId} {v : Value} {X Y : World} (h : Boxed X B t v) (hb : Below X.heap.size X Y) : Boxed Y B t v := (hb.block _ h.lt).trans h
theorem box_cell (w : World) (v : Value) (t : TypeId) : (w.alloc (.cells #[v] t)).cell? ⟨w.heap.size, 0, none⟩ = some v := by
  have hb := World.alloc_heap_new w (.cells #[v] t)
  simp only [World.cell?, hb]; rfl

/-- what the consumer of an element answers: to go on, or not -/
def AnsC {α : Type} (J Jx : List α → World → Prop) (e b1 b2 : Nat) (pre : List α) (x : α) (W : World) (b : Bool) (W' : World) : Prop :=
  (b = true ∧ J (pre ++ [x]) W' ∧ KeepR e b1 b2 W W') ∨ (b = false ∧ Jx (pre ++ [x]) W')
end Go.Proofs.YtngdmpkoedpgdaaGreatDoor
