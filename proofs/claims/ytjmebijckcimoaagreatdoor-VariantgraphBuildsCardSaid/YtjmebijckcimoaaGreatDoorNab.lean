import Derived.Test.YtjmebijckcimoaaGreatDoorKi
import Derived.Test.YtjmebijckcimoaaGreatDoorPl
import Derived.RangeFuncBox
import Derived.Maps.AppendAt
import Derived.Stop.RegionWithIn
import Derived.Lib.ConvBytes
import Derived.Test.YtjmebijckcimoaaGreatDoorShelf



namespace Go.Proofs.YtjmebijckcimoaaGreatDoor
open Go.RowKit Go.Ap Go.Shelf Go.Proofs

theorem ext_drop {s : Str} {i : Nat} : (bs s).extract i s.length = bs (s.drop i) := by
  rw [bs_extract, List.take_of_length_le (by simp)]
theorem ext_take {s : Str} {i : Nat} : (bs s).extract 0 i = bs (s.take i) := by
  rw [bs_extract, List.drop_zero, Nat.sub_zero]
attribute [local go_sem] Oper.semAt_some bs_toList empty_toList bs_size ext_drop ext_take bs_append

theorem wk_seven (c : UInt8) : wk c = 0 ∨ wk c = 1 ∨ wk c = 2 ∨ wk c = 3 ∨ wk c = 4 ∨ wk c = 5 ∨ wk c = 6 := by have := wk_rng c; omega
theorem kindPc (c : UInt8) (w : World) : Calls Tryz.prog 140 #[.int .u8 (c.toNat : Int)] w fun e w' => e = .returned (.int .i64 (wk c)) ∧ w = w' := kindP _ w (by omega) (by have := c.toNat_lt; omega)
theorem kindRc (c : UInt8) (w : World) : Calls Tryz.prog 136 #[.int .u8 (c.toNat : Int)] w fun e w' => e = .returned (.int .i64 (wk c)) ∧ w = w' := kindR _ w (by omega) (by have := c.toNat_lt; omega)
theorem word_pre {s : ByteArray} {k : Nat} (h : k < s.size) : s.data.toList.take (k + 1) = s.data.toList.take k ++ [s[k]] := by
  rw [List.take_succ_eq_append_getElem (by simpa using h)]; rfl

def letBK (k : Int) : Bool := decide (k = 1) || decide (k = 3)
def wchK (k : Int) : Bool := decide (1 ≤ k ∧ k ≤ 4)
def pspB (c : UInt8) : Bool := decide (wk c = 5) || decide (wk c = 6)
def pspBK (k : Int) : Bool := decide (k = 5) || decide (k = 6)

set_option maxHeartbeats 1000000 in
theorem beginsP (c : UInt8) (w : World) : Calls Tryz.prog 160 #[.int .u8 (c.toNat : Int)] w fun e w' => e = .returned (.bool (letB c)) ∧ w = w' := by
  have H := Lib.hid (kindPc c w)
  have HP := Lib.hid (show letB c = letBK (wk c) from rfl)
  rw [HP.out]
  have HS := wk_seven c
  clear HP
  generalize wk c = k at *
  rcases HS with rfl | rfl | rfl | rfl | rfl | rfl | rfl
  all_goals
    go_enter Tryz.func160, Tryz.ntmps160
    go_wp2_with (fail)
    refine H.out.mono ?_
    rintro e w1 ⟨rfl, rfl⟩
    go_wp2_with (fail)
    go_ret
    exact ⟨rfl, rfl⟩
set_option maxHeartbeats 1000000 in
theorem innerP (c : UInt8) (w : World) : Calls Tryz.prog 147 #[.int .u8 (c.toNat : Int)] w fun e w' => e = .returned (.bool (wch c)) ∧ w = w' := by
  have H := Lib.hid (kindPc c w)
  have H2 := Lib.hid (beginsP c w)
  have HQ := Lib.hid (show letB c = letBK (wk c) from rfl)
  rw [HQ.out] at H2
  clear HQ
  have HP := Lib.hid (show wch c = wchK (wk c) from rfl)
  rw [HP.out]
  have HS := wk_seven c
  clear HP
  generalize wk c = k at *
  rcases HS with rfl | rfl | rfl | rfl | rfl | rfl | rfl
  all_goals
    go_enter Tryz.func147, Tryz.ntmps147
    go_wp2_with (fail)
    refine H.out.mono ?_
    rintro e w1 ⟨rfl, rfl⟩
    go_wp2_with (fail)
    refine H2.out.mono ?_
    rintro e w1 ⟨rfl, rfl⟩
    go_wp2_with (fail)
    go_ret
    exact ⟨rfl, rfl⟩
set_option maxHeartbeats 1000000 in
theorem wordlyR (c : UInt8) (w : World) : Calls Tryz.prog 137 #[.int .u8 (c.toNat : Int)] w fun e w' => e = .returned (.bool (wch c)) ∧ w = w' := by
  have H := Lib.hid (kindRc c w)
  have HP := Lib.hid (show wch c = wchK (wk c) from rfl)
  rw [HP.out]
  have HS := wk_seven c
  clear HP
  generalize wk c = k at *
  rcases HS with rfl | rfl | rfl | rfl | rfl | rfl | rfl
  all_goals
    go_enter Tryz.func137, Tryz.ntmps137
    go_wp2_with (fail)
    refine H.out.mono ?_
    rintro e w1 ⟨rfl, rfl⟩
    go_wp2_with (fail)
    go_ret
    exact ⟨rfl, rfl⟩
set_option maxHeartbeats 1000000 in
theorem isword1 (c : UInt8) (w : World) : Calls Tryz.prog 144 #[.int .u8 (c.toNat : Int)] w fun e w' => e = .returned (.bool (pspB c)) ∧ w = w' := by
  have H := Lib.hid (kindPc c w)
  have HP := Lib.hid (show pspB c = pspBK (wk c) from rfl)
  rw [HP.out]
  have HS := wk_seven c
  clear HP
  generalize wk c = k at *
  rcases HS with rfl | rfl | rfl | rfl | rfl | rfl | rfl
  all_goals
    go_enter Tryz.func144, Tryz.ntmps144
    go_wp2_with (fail)
    refine H.out.mono ?_
    rintro e w1 ⟨rfl, rfl⟩
    go_wp2_with (fail)
    go_ret
    exact ⟨rfl, rfl⟩

theorem letters_snoc {s : ByteArray} {k : Nat} (h : k < s.size) : lettersN (s.data.toList.take (k + 1)) = lettersN (s.data.toList.take k) + if letB s[k] = true then 1 else 0 := by
  unfold lettersN
  rw [word_pre h, List.countP_append, List.countP_cons, List.countP_nil, Nat.zero_add]
theorem letters_le (s : Str) : lettersN s ≤ s.length := List.countP_le_length
theorem letters_all (s : Str) : decide (lettersN s = s.length) = s.all letB := by
  rw [Bool.eq_iff_iff, decide_eq_true_eq, List.all_eq_true]
  exact List.countP_eq_length

set_option maxHeartbeats 1000000 in
theorem lettersP (s : ByteArray) (w : World) (hs : s.size ≤ 4611686018427387903) : Calls Tryz.prog 113 #[.string s] w fun e w' => e = .returned (.int .i64 (lettersN s.data.toList)) ∧ w = w' := by
  have HK := Lib.hid (fun (k : Nat) (h : k < s.size) => kindPc s[k] w)
  go_enter Tryz.func113, Tryz.ntmps113
  go_wp2_with (fail)
  go_loop [3, 8] (fun nv iv => ∃ k : Nat, k ≤ s.size ∧ iv = .int .i64 k ∧ nv = .int .i64 (lettersN (s.data.toList.take k))) (fun _ iv => s.size - (intOf iv).toNat)
  case atStart => exact ⟨0, Nat.zero_le _, rfl, by simp [lettersN]⟩
  case round =>
    obtain ⟨k, hk, rfl, rfl⟩ := hrel
    by_cases hlt : k < s.size
    · have h1 := HK.out k hlt
      have HSN := Lib.hid (letters_snoc hlt)
      have hle := letters_le (s.data.toList.take k)
      rw [List.length_take] at hle
      generalize lettersN (s.data.toList.take k) = m at *
      have hm : m ≤ k := by omega
      clear hle
      cases hc : letB s[k]
      all_goals
        have HC := Lib.hid hc
        unfold letB at hc
        obtain ⟨q, hq⟩ : ∃ q, wk s[k] = q := ⟨_, rfl⟩
        rw [hq] at hc h1
        have H1 := Lib.hid h1
        clear hq h1
        simp only [Bool.or_eq_true, Bool.or_eq_false_iff, decide_eq_true_eq, decide_eq_false_iff_not] at hc
      · have e1 : (q == 1) = false := by rw [beq_eq_false_iff_ne]; exact hc.1
        have e3 : (q == 3) = false := by rw [beq_eq_false_iff_ne]; exact hc.2
        clear hc
        go_wp2_with (fail)
        refine H1.out.mono ?_
        rintro e w1 ⟨rfl, rfl⟩
        go_wp2_with (fail)
        go_round
        case rel => exact ⟨k + 1, by omega, by go_num, by rw [HSN.out, HC.out]; simp⟩
        case measure => simp [intOf]; omega
      · rcases hc with rfl | rfl
        all_goals
          go_wp2_with (fail)
          refine H1.out.mono ?_
          rintro e w1 ⟨rfl, rfl⟩
          go_wp2_with (fail)
          go_round
          case rel => exact ⟨k + 1, by omega, by go_num, by rw [HSN.out, HC.out]; simp⟩
          case measure => simp [intOf]; omega
    · obtain rfl : s.size = k := by omega
      go_wp2_with (fail)
      go_ret
      exact ⟨ret_i (by rw [List.take_of_length_le (by simp)]), rfl⟩
set_option maxHeartbeats 1000000 in
theorem lettersR (s : ByteArray) (w : World) (hs : s.size ≤ 4611686018427387903) : Calls Tryz.prog 133 #[.string s] w fun e w' => e = .returned (.int .i64 (lettersN s.data.toList)) ∧ w = w' := by
  have HK := Lib.hid (fun (k : Nat) (h : k < s.size) => kindRc s[k] w)
  go_enter Tryz.func133, Tryz.ntmps133
  go_wp2_with (fail)
  go_loop [3, 4] (fun nv iv => ∃ k : Nat, k ≤ s.size ∧ iv = .int .i64 k ∧ nv = .int .i64 (lettersN (s.data.toList.take k))) (fun _ iv => s.size - (intOf iv).toNat)
  case atStart => exact ⟨0, Nat.zero_le _, rfl, by simp [lettersN]⟩
  case round =>
    obtain ⟨k, hk, rfl, rfl⟩ := hrel
    by_cases hlt : k < s.size
    · have h1 := HK.out k hlt
      have HSN := Lib.hid (letters_snoc hlt)
      have hle := letters_le (s.data.toList.take k)
      rw [List.length_take] at hle
      generalize lettersN (s.data.toList.take k) = m at *
      have hm : m ≤ k := by omega
      clear hle
      cases hc : letB s[k]
      all_goals
        have HC := Lib.hid hc
        unfold letB at hc
        obtain ⟨q, hq⟩ : ∃ q, wk s[k] = q := ⟨_, rfl⟩
        rw [hq] at hc h1
        have H1 := Lib.hid h1
        clear hq h1
        simp only [Bool.or_eq_true, Bool.or_eq_false_iff, decide_eq_true_eq, decide_eq_false_iff_not] at hc
      · have e1 : (q == 1) = false := by rw [beq_eq_false_iff_ne]; exact hc.1
        have e3 : (q == 3) = false := by rw [beq_eq_false_iff_ne]; exact hc.2
        clear hc
        go_wp2_with (fail)
        refine H1.out.mono ?_
        rintro e w1 ⟨rfl, rfl⟩
        go_wp2_with (fail)
        go_round
        case rel => exact ⟨k + 1, by omega, by go_num, by rw [HSN.out, HC.out]; simp⟩
        case measure => simp [intOf]; omega
      · rcases hc with rfl | rfl
        all_goals
          go_wp2_with (fail)
          refine H1.out.mono ?_
          rintro e w1 ⟨rfl, rfl⟩
          go_wp2_with (fail)
          go_round
          case rel => exact ⟨k + 1, by omega, by go_num, by rw [HSN.out, HC.out]; simp⟩
          case measure => simp [intOf]; omega
    · obtain rfl : s.size = k := by omega
      go_wp2_with (fail)
      go_ret
      exact ⟨ret_i (by rw [List.take_of_length_le (by simp)]), rfl⟩
end Go.Proofs.YtjmebijckcimoaaGreatDoor


namespace Go.Proofs.YtjmebijckcimoaaGreatDoor
open Go.RowKit Go.Ap Go.Shelf Go.Proofs

attribute [local go_sem] Oper.semAt_some bs_toList empty_toList bs_size ext_drop ext_take bs_append

theorem lettersPs (s : Str) (w : World) (hs : s.length ≤ 4611686018427387903) : Calls Tryz.prog 113 #[.string (bs s)] w fun e w' => e = .returned (.int .i64 (lettersN s)) ∧ w = w' := lettersP (bs s) w (by rw [bs_size]; exact hs)
theorem lettersRs (s : Str) (w : World) (hs : s.length ≤ 4611686018427387903) : Calls Tryz.prog 133 #[.string (bs s)] w fun e w' => e = .returned (.int .i64 (lettersN s)) ∧ w = w' := lettersR (bs s) w (by rw [bs_size]; exact hs)
set_option maxHeartbeats 1000000 in
theorem nameP (s : Str) (w : World) (hs : s.length ≤ 4611686018427387903) : Calls Tryz.prog 93 #[.string (bs s)] w fun e w' => e = .returned (.bool (nameB s)) ∧ w = w' := by
  have HL := Lib.hid (lettersPs s w hs)
  by_cases h0 : s = []
  · subst h0
    go_enter Tryz.func93, Tryz.ntmps93
    go_wp2_with (fail)
    go_ret
    exact ⟨rfl, rfl⟩
  · have e1 : (s == []) = false := by simpa using h0
    have e2 : s.isEmpty = false := by simpa using h0
    by_cases h16 : s.length ≤ 16
    · have d1 : decide ((s.length : Int) ≤ 16) = true := by simp; omega
      have hall := letters_all s
      have HR := Lib.hid (show nameB s = s.all letB by simp [nameB, h0, h16])
      have hle := letters_le s
      generalize lettersN s = m at *
      have eb1 : ((m : Int) == (s.length : Int)) = s.all letB := by rw [← hall, Bool.eq_iff_iff, beq_iff_eq, decide_eq_true_eq]; omega
      have eb2 : (m == s.length) = s.all letB := by rw [← hall, Bool.eq_iff_iff, beq_iff_eq, decide_eq_true_eq]
      clear hall h0 h16 hle
      generalize s.all letB = b at *
      go_enter Tryz.func93, Tryz.ntmps93
      go_wp2_with (fail)
      refine HL.out.mono ?_
      rintro e w1 ⟨rfl, rfl⟩
      go_wp2_with (fail)
      go_ret
      exact ⟨ret_b HR.out.symm, rfl⟩
    · have d1 : decide ((s.length : Int) ≤ 16) = false := by simp; omega
      have HR := Lib.hid (show nameB s = false by simp [nameB, h16])
      clear h0 h16
      go_enter Tryz.func93, Tryz.ntmps93
      go_wp2_with (fail)
      go_ret
      exact ⟨ret_b HR.out.symm, rfl⟩
set_option maxHeartbeats 1000000 in
theorem namedP (s : Str) (w : World) (hs : s.length ≤ 4611686018427387903) : Calls Tryz.prog 121 #[.string (bs s)] w fun e w' => e = .returned (.bool (namedB s)) ∧ w = w' := by
  have HL := Lib.hid (nameP s w hs)
  by_cases h0 : s = []
  · subst h0
    go_enter Tryz.func121, Tryz.ntmps121
    go_wp2_with (fail)
    go_ret
    exact ⟨rfl, rfl⟩
  · have e1 : (s == []) = false := by simpa using h0
    have e2 : s.isEmpty = false := by simpa using h0
    have HR := Lib.hid (show namedB s = nameB s by simp [namedB, h0])
    clear h0
    go_enter Tryz.func121, Tryz.ntmps121
    go_wp2_with (fail)
    refine HL.out.mono ?_
    rintro e w1 ⟨rfl, rfl⟩
    go_wp2_with (fail)
    go_ret
    exact ⟨ret_b HR.out.symm, rfl⟩

def markK (k : Int) : Bool := decide (k = 5) || decide (k = 4)
set_option maxHeartbeats 1000000 in
theorem markP (s : Str) (w : World) (hs : s.length ≤ 4611686018427387903) : Calls Tryz.prog 118 #[.string (bs s)] w fun e w' => e = .returned (.bool (markB s)) ∧ w = w' := by
  match s with
  | [] =>
    go_enter Tryz.func118, Tryz.ntmps118
    go_wp2_with (fail)
    go_ret
    exact ⟨rfl, rfl⟩
  | [c] =>
    have HR := Lib.hid (show markB [c] = markK (wk c) from rfl)
    have HK := Lib.hid (kindPc c w)
    have HS := wk_seven c
    rw [HR.out]
    clear HR
    generalize hk : wk c = k at *
    clear hk
    rcases HS with rfl | rfl | rfl | rfl | rfl | rfl | rfl
    all_goals
      go_enter Tryz.func118, Tryz.ntmps118
      go_wp2_with (fail)
      refine HK.out.mono ?_
      rintro e w1 ⟨rfl, rfl⟩
      go_wp2_with (fail)
      go_ret
      exact ⟨rfl, rfl⟩
  | c :: d :: t =>
    have HR := Lib.hid (show markB (c :: d :: t) = false from rfl)
    obtain ⟨l, hl⟩ : ∃ l, c :: d :: t = l := ⟨_, rfl⟩
    have h2 : 2 ≤ l.length := by rw [← hl]; simp
    rw [hl] at HR ⊢
    have e1 : ((l.length : Int) != 1) = true := by rw [bne_iff_ne]; omega
    have e2 : (l.length != 1) = true := by rw [bne_iff_ne]; omega
    clear hl hs
    go_enter Tryz.func118, Tryz.ntmps118
    go_wp2_with (fail)
    go_ret
    exact ⟨ret_b HR.out.symm, rfl⟩
theorem word_no {s : ByteArray} {k : Nat} (h : k < s.size) (hw : wch s[k] = false) : wordB s.data.toList = false := by
  rw [wordB, List.all_eq_false]
  exact ⟨s[k], by rw [show s[k] = s.data.toList[k]'(by simpa using h) from rfl]; exact List.getElem_mem _, by simp [hw]⟩
theorem word_yes {s : ByteArray} {k : Nat} (h : k < s.size) (hw : wordB (s.data.toList.take k) = true) (hc : wch s[k] = true) : wordB (s.data.toList.take (k + 1)) = true := by
  rw [word_pre h]
  simp only [wordB, List.all_append, Bool.and_eq_true] at hw ⊢
  exact ⟨hw, by simp [hc]⟩
set_option maxHeartbeats 1000000 in
theorem normPb (s : ByteArray) (w : World) (hs : s.size ≤ 4611686018427387903) : Calls Tryz.prog 120 #[.string s] w fun e w' => e = .returned (.bool (normB s.data.toList)) ∧ w = w' := by
  have HK := Lib.hid (fun (k : Nat) (h : k < s.size) => innerP s[k] w)
  have HZ := Lib.hid (show s.data.toList.length = s.size from rfl)
  have HT := Lib.hid (ByteArray.toList_eq (bs := s))
  go_enter Tryz.func120, Tryz.ntmps120
  go_wp2_with (fail)
  go_loop [6] (fun i => ∃ k : Nat, k ≤ s.size ∧ i = .int .i64 k ∧ wordB (s.data.toList.take k) = true) (fun i => s.size - (intOf i).toNat)
  case atStart => exact ⟨0, Nat.zero_le _, rfl, rfl⟩
  case round =>
    obtain ⟨k, hk, rfl, hw⟩ := hrel
    have HW := Lib.hid hw
    clear hw
    by_cases hlt : k < s.size
    · have h1 := HK.out k hlt
      have HNO := Lib.hid (fun h => word_no hlt h)
      have HYE := Lib.hid (fun h => word_yes hlt HW.out h)
      obtain ⟨b, hb⟩ : ∃ b, wch s[k] = b := ⟨_, rfl⟩
      rw [hb] at h1
      have HB := Lib.hid hb
      have H1 := Lib.hid h1
      clear hb h1
      cases b
      · have HR := Lib.hid (show normB s.data.toList = false by simp [normB, HNO.out HB.out])
        go_wp2_with (fail)
        refine H1.out.mono ?_
        rintro e w1 ⟨rfl, rfl⟩
        go_wp2_with (fail)
        go_ret
        exact ⟨ret_b HR.out.symm, rfl⟩
      · go_wp2_with (fail)
        refine H1.out.mono ?_
        rintro e w1 ⟨rfl, rfl⟩
        go_wp2_with (fail)
        go_round
        case rel => exact ⟨k + 1, by omega, by go_num, HYE.out HB.out⟩
        case measure => simp [intOf]; omega
    · obtain rfl : s.size = k := by omega
      have hwa : wordB s.data.toList = true := by rw [← HW.out, List.take_of_length_le (by simp)]
      by_cases h0 : s.data.toList = []
      · have HR := Lib.hid (show normB s.data.toList = false by simp [normB, h0])
        have e0 : s.toList = [] := by rw [HT.out]; exact h0
        have e1 : (s.toList == []) = true := by rw [e0]; rfl
        have e2 : s.toList.isEmpty = true := by rw [e0]; rfl
        clear h0 hwa
        have E0 := Lib.hid e0
        clear e0
        go_wp2_with (fail)
        go_ret
        exact ⟨ret_b HR.out.symm, rfl⟩
      · have e1 : (s.toList == []) = false := by rw [HT.out]; simpa using h0
        have e2 : s.toList.isEmpty = false := by rw [HT.out]; simpa using h0
        have HR := Lib.hid (show normB s.data.toList = decide (s.size ≤ 64) by
          show (decide (s.data.toList ≠ []) && decide (s.data.toList.length ≤ 64) && wordB s.data.toList) = decide (s.size ≤ 64)
          rw [hwa, HZ.out, decide_eq_true h0]; simp)
        clear h0 hwa
        by_cases h64 : s.size ≤ 64
        · have d1 : decide ((s.size : Int) ≤ 64) = true := by simp; omega
          have HR2 := Lib.hid (show normB s.data.toList = true by rw [HR.out]; simpa using h64)
          clear h64
          go_wp2_with (fail)
          go_ret
          exact ⟨ret_b HR2.out.symm, rfl⟩
        · have d1 : decide ((s.size : Int) ≤ 64) = false := by simp; omega
          have HR2 := Lib.hid (show normB s.data.toList = false by rw [HR.out]; simpa using h64)
          clear h64
          go_wp2_with (fail)
          go_ret
          exact ⟨ret_b HR2.out.symm, rfl⟩
theorem normP (s : Str) (w : World) (hs : s.length ≤ 4611686018427387903) : Calls Tryz.prog 120 #[.string (bs s)] w fun e w' => e = .returned (.bool (normB s)) ∧ w = w' := normPb (bs s) w (by rw [bs_size]; exact hs)
end Go.Proofs.YtjmebijckcimoaaGreatDoor






namespace Go.Proofs.YtjmebijckcimoaaGreatDoor
open Go.RowKit Go.Ap Go.Shelf Go.Proofs

/-- what an iterator over the caller's blocks asks of its consumer: the blocks below e, and its own two boxes, stay as they are -/
structure KeepR (e b1 b2 : Nat) (A C : World) : Prop where
  os : C.os = A.os
  tape : C.tape = A.tape
  output : C.output = A.output
  size : A.heap.size ≤ C.heap.size
  block : ∀ k, (k < e ∨ k = b1 ∨ k = b2) → C.heap[k]? = A.heap[k]?
section
variable {e b1 b2 : Nat} {A C D : World}
theorem KeepR.refl (e b1 b2 : Nat) (A : World) : KeepR e b1 b2 A A := ⟨rfl, rfl, rfl, Nat.le_refl _, fun _ _ => rfl⟩
theorem KeepR.trans (h : KeepR e b1 b2 A C) (k : KeepR e b1 b2 C D) : KeepR e b1 b2 A D :=
  ⟨k.os.trans h.os, k.tape.trans h.tape, k.output.trans h.output, Nat.le_trans h.size k.size, fun i hi => (k.block i hi).trans (h.block i hi)⟩
theorem KeepR.of_below {n : Nat} (h : Below n A C) (he : e ≤ n) (h1 : b1 < n) (h2 : b2 < n) : KeepR e b1 b2 A C := ⟨h.os, h.tape, h.output, h.size, fun k hk => h.block k (by omega)⟩
theorem KeepR.below (h : KeepR e b1 b2 A C) : Below e A C := ⟨h.os, h.tape, h.output, h.size, fun k hk => h.block k (.inl hk)⟩
theorem KeepR.cell (h : KeepR e b1 b2 A C) {b o : Nat} (hb : b < e ∨ b = b1 ∨ b = b2) : C.cell? ⟨b, o, none⟩ = A.cell? ⟨b, o, none⟩ := World.cell?_of_block (w := A) (h.block b hb)
theorem keepR_b {w : World} (he : e ≤ w.heap.size) (h1 : b1 < w.heap.size) (h2 : b2 < w.heap.size) (W : World) (l : Nat) (o o' : Obj) (hl : w.heap.size ≤ l) (h : W.heap[l]? = some o) (hc : o.isCells = false) (hw : o.isWalk = false) : KeepR e b1 b2 W (W.putObj l o') :=
  .of_below (belowK_b (w := w) (Nat.le_refl _) W l o o' hl h hc hw) he h1 h2
end
theorem KeepR.drewN {e b1 b2 : Nat} (W : World) (q : Nat) : KeepR e b1 b2 W (W.drewN q) := ⟨rfl, rfl, rfl, Nat.le_refl _, fun _ _ => rfl⟩
theorem cell_keep {w w' : World} {p : Addr} {v : Value} (hb : Below w.heap.size w w') (h : w.cell? p = some v) : w'.cell? p = some v := (hb.cell (World.block_lt_of_cell? w p h)).trans h
theorem boxed_k {B B' : Nat} {t : TypeId} {v : Value} {X Y : World} {row : Option Nat} (h : Boxed X B t v) (hg : X.grownBy Y row) (hr : ∀ r, row = some r → B' ≤ r ∧ ∃ o : Obj, X.heap[r]? = some o ∧ o.isCells = false) : Boxed Y B t v :=
  (boxed_own B t (fun _ : Unit => v)).from B' () X Y row h hg hr
theorem boxed_below {B : Nat} {t : TypeId} {v : Value} {X Y : World} (h : Boxed X B t v) (hb : Below X.heap.size X Y) : Boxed Y B t v := (hb.block _ h.lt).trans h
theorem box_cell (w : World) (v : Value) (t : TypeId) : (w.alloc (.cells #[v] t)).cell? ⟨w.heap.size, 0, none⟩ = some v := by
  have hb := World.alloc_heap_new w (.cells #[v] t)
  simp only [World.cell?, hb]; rfl

/-- what the consumer of an element answers: to go on, or not -/
def AnsC {α : Type} (J Jx : List α → World → Prop) (e b1 b2 : Nat) (pre : List α) (x : α) (W : World) (b : Bool) (W' : World) : Prop :=
  (b = true ∧ J (pre ++ [x]) W' ∧ KeepR e b1 b2 W W') ∨ (b = false ∧ Jx (pre ++ [x]) W')
end Go.Proofs.YtjmebijckcimoaaGreatDoor


namespace Go.Proofs.YtjmebijckcimoaaGreatDoor
open Go.RowKit Go.Ap Go.Shelf Go.Proofs

attribute [local go_sem] Oper.semAt_some bs_toList empty_toList bs_size bs_extract

theorem kindAt (s : Str) (i : Nat) (h : i < s.length) (w : World) : Calls Tryz.prog 140 #[.int .u8 (((bs s)[i]'(by rw [bs_size]; exact h)).toNat : Int)] w fun e w' => e = .returned (.int .i64 (wkAt s i)) ∧ w = w' := by
  rw [wkAt_of h]; exact kindPc s[i] w
set_option maxHeartbeats 1000000 in
theorem rightP (s : Str) (f i : Nat) (w : World) (hf : f < s.length) (hi : f < i) : Calls Tryz.prog 165 #[.string (bs s), .int .i64 f, .int .i64 i] w fun e w' => e = .returned (.bool (decide (wkAt s f = 1))) ∧ w = w' := by
  have HK := Lib.hid (kindAt s f hf w)
  have d1 : decide ((f : Int) < (i : Int)) = true := by simp; omega
  have d2 : decide (f < i) = true := by simpa using hi
  have h0 : (0 : Int) ≤ (f : Int) := by omega
  by_cases h1 : wkAt s f = 1
  · rw [h1] at HK ⊢
    clear h1
    go_enter Tryz.func165, Tryz.ntmps165
    go_wp2_with (fail)
    refine HK.out.mono ?_
    rintro e w1 ⟨rfl, rfl⟩
    go_wp2_with (fail)
    go_ret
    exact ⟨rfl, rfl⟩
  · have e1 : (wkAt s f == 1) = false := by rw [beq_eq_false_iff_ne]; exact h1
    rw [decide_eq_false h1]
    generalize wkAt s f = k at *
    clear h1
    go_enter Tryz.func165, Tryz.ntmps165
    go_wp2_with (fail)
    refine HK.out.mono ?_
    rintro e w1 ⟨rfl, rfl⟩
    go_wp2_with (fail)
    go_ret
    exact ⟨rfl, rfl⟩

set_option maxRecDepth 100000 in
set_option maxHeartbeats 4000000 in
theorem clusters_it (F : Fence) (hF : F = Fence.wide) (m : Nat) (hm : 1 ≤ m) (l Bw e : Nat) (s : Str) (J Jx : List Clu → World → Prop) (hs : s.length ≤ 4611686018427387903)
    (hY : ∀ pre x W, J pre W → pre.length < (clL s).length → x ∈ clL s → YieldAt F (m - 1) Tryz.prog l #[.int .i64 x.1, .string (bs x.2)] W fun en W' =>
      (en = .returned (.bool true) ∧ J (pre ++ [x]) W' ∧ KeepR e Bw Bw W W') ∨ (en = .returned (.bool false) ∧ Jx (pre ++ [x]) W'))
    (W : World)
    (hcw : W.cell? ⟨Bw, 0, none⟩ = some (.string (bs s))) (h0 : J [] W) :
    CallsIn F m Tryz.prog 164 #[.func (.yield l) #[] #[], .pointer (some ⟨Bw, 0, none⟩)] W fun en W' => (∃ v, en = .returned v) ∧
      ((∃ zs, zs = clL s ∧ J zs W') ∨ (∃ pre, pre <+: clL s ∧ Jx pre W')) := by
  subst hF
  have HY := Lib.hid (show ∀ pre x W, J pre W → pre.length < (clL s).length → x ∈ clL s → YieldAt Fence.wide (m - 1) Tryz.prog l #[.int .i64 x.1, .string (bs x.2)] W fun en W' => ∃ b, en = .returned (.bool b) ∧ AnsC J Jx e Bw Bw pre x W b W' from fun pre x W h1 h2 h3 => (hY pre x W h1 h2 h3).mono fun en W' h => by
    rcases h with ⟨h, h3⟩ | ⟨h, h3⟩
    · exact ⟨true, h, .inl ⟨rfl, h3⟩⟩
    · exact ⟨false, h, .inr ⟨rfl, h3⟩⟩)
  clear hY
  have hFk : Fence.wide.fn 140 := trivial
  have hFr : Fence.wide.fn 165 := trivial
  refine callsIn_of_wp Tryz.func164 rfl trivial ?_ rfl
  simp only [Tryz.ntmps164, List.size_toArray, List.length_cons, List.length_nil, Nat.reduceAdd, Nat.reduceSub, Array.replicate_succ, Array.replicate_zero, List.push_toArray, List.append_toArray, List.nil_append, List.cons_append]
  gi_wp2
  gi_loopw [3, 4] (fun fv iv wr => ∃ n : Nat, n ≤ s.length ∧ iv = .int .i64 ((n : Int) + 1) ∧ fv = .int .i64 ((clF s n).2 : Int) ∧ J (clF s n).1 wr ∧ KeepR e Bw Bw W wr)
    (fun _ iv _ => s.length + 1 - (intOf iv).toNat)
  case atStart => exact ⟨0, Nat.zero_le _, rfl, rfl, h0, KeepR.refl _ _ _ _⟩
  case round =>
    obtain ⟨n, hn, rfl, rfl, hJn, hnk⟩ := hrel
    have HJn := Lib.hid hJn
    have HNk := Lib.hid hnk
    have hcw1 : wr.cell? ⟨Bw, 0, none⟩ = some (.string (bs s)) := (hnk.cell (.inr (.inl rfl))).trans hcw
    clear hJn hnk
    by_cases hlt : n < s.length
    · have hle := clF_le s n
      have HG := Lib.hid (fun h => clF_go (s := s) (n := n) h)
      have HNW := Lib.hid (fun h => clF_new (s := s) (n := n) h)
      have HPR := Lib.hid (clL_pre (s := s) (n := n + 1) (by omega))
      generalize clF s n = lf at *
      obtain ⟨L, f⟩ := lf
      simp only at hle HG HNW HJn
      have p1 : (0 : Int) ≤ (f : Int) := by omega
      have p2 : (f : Int) ≤ (n : Int) + 1 := by omega
      have p3 : (n : Int) + 1 ≤ (s.length : Int) := by omega
      by_cases hn1 : n + 1 < s.length
      · have p4 : (n : Int) + 1 < (s.length : Int) := by omega
        have p5 : (0 : Int) ≤ (n : Int) + 1 := by omega
        have HK := Lib.hid (kindAt s (n + 1) hn1)
        have HRT := Lib.hid (fun W => rightP s f (n + 1) W (by omega) (by omega))
        by_cases h2 : wkAt s (n + 1) = 2
        · rw [h2] at HK
          by_cases h1 : wkAt s f = 1
          · rw [decide_eq_true h1] at HRT
            have HN := Lib.hid (HG.out (by simp [contB, hn1, h2, h1]))
            clear h1 h2 HG HNW
            gi_wp2_with (fail)
            refine (callsIn_wide.2 (HK.out _)).mono ?_
            rintro e w1 ⟨rfl, rfl⟩
            gi_wp2_with (fail)
            refine (callsIn_wide.2 (HRT.out _)).mono ?_
            rintro e w1 ⟨rfl, rfl⟩
            gi_wp2_with (fail)
            go_roundw
            case rel => exact ⟨n + 1, by omega, by simp, by rw [HN.out], by rw [HN.out]; exact HJn.out, HNk.out⟩
            case measure => simp [intOf]; omega
          · rw [decide_eq_false h1] at HRT
            have hcb : contB s f (n + 1) = false := by simp [contB, h1]
            clear h1 h2
            have HN := Lib.hid (HNW.out hcb)
            clear hcb HG HNW
            gi_wp2_with (fail)
            refine (callsIn_wide.2 (HK.out _)).mono ?_
            rintro e w1 ⟨rfl, rfl⟩
            gi_wp2_with (fail)
            refine (callsIn_wide.2 (HRT.out _)).mono ?_
            rintro e w1 ⟨rfl, rfl⟩
            gi_wp2_with (fail)
            obtain ⟨fn, tmps, assign, body, hy, hR⟩ := HY.out L (f, (s.drop f).take (n + 1 - f)) (wr) HJn.out (by
              have := HPR.out.length_le
              rw [HN.out, List.length_append, List.length_singleton] at this
              omega) (by
              have := HPR.out
              rw [HN.out] at this
              exact this.subset (by simp))
            gi_wp2_with (refine hR.mono ?_; rintro en W5 ⟨ans, rfl, hans⟩)
            all_goals clear hy hR
            all_goals have HANS := Lib.hid hans
            all_goals clear hans
            all_goals rcases HANS.out with ⟨rfl, hJ3, hk3⟩ | ⟨rfl, hJx3⟩
            all_goals clear HANS
            all_goals first
              | (exfalso; simp_all; done)
              | exact ⟨⟨n + 1, by omega, by simp, by rw [HN.out]; simp, by rw [HN.out]; exact hJ3, HNk.out.trans hk3⟩, by simp [intOf]; omega⟩
              | exact bodyPost_ret (results_none rfl _ _ _) rfl ⟨⟨_, rfl⟩, .inr ⟨_, by have := HPR.out; rw [HN.out] at this; exact this, hJx3⟩⟩
        · have e2 : (wkAt s (n + 1) == 2) = false := by rw [beq_eq_false_iff_ne]; exact h2
          have hcb : contB s f (n + 1) = false := by simp [contB, h2]
          generalize wkAt s (n + 1) = kc at *
          clear h2
          have HN := Lib.hid (HNW.out hcb)
          clear hcb HG HNW
          gi_wp2_with (fail)
          refine (callsIn_wide.2 (HK.out _)).mono ?_
          rintro e w1 ⟨rfl, rfl⟩
          gi_wp2_with (fail)
          obtain ⟨fn, tmps, assign, body, hy, hR⟩ := HY.out L (f, (s.drop f).take (n + 1 - f)) (wr) HJn.out (by
            have := HPR.out.length_le
            rw [HN.out, List.length_append, List.length_singleton] at this
            omega) (by
            have := HPR.out
            rw [HN.out] at this
            exact this.subset (by simp))
          gi_wp2_with (refine hR.mono ?_; rintro en W5 ⟨ans, rfl, hans⟩)
          all_goals clear hy hR
          all_goals have HANS := Lib.hid hans
          all_goals clear hans
          all_goals rcases HANS.out with ⟨rfl, hJ3, hk3⟩ | ⟨rfl, hJx3⟩
          all_goals clear HANS
          all_goals first
            | (exfalso; simp_all; done)
            | exact ⟨⟨n + 1, by omega, by simp, by rw [HN.out]; simp, by rw [HN.out]; exact hJ3, HNk.out.trans hk3⟩, by simp [intOf]; omega⟩
            | exact bodyPost_ret (results_none rfl _ _ _) rfl ⟨⟨_, rfl⟩, .inr ⟨_, by have := HPR.out; rw [HN.out] at this; exact this, hJx3⟩⟩
      · have hcb : contB s f (n + 1) = false := by simp [contB, hn1]
        have d1 : decide ((n : Int) + 1 < (s.length : Int)) = false := by simp; omega
        have d2 : decide (n + 1 < s.length) = false := by simp; omega
        have HN := Lib.hid (HNW.out hcb)
        clear hcb HG HNW
        gi_wp2_with (fail)
        obtain ⟨fn, tmps, assign, body, hy, hR⟩ := HY.out L (f, (s.drop f).take (n + 1 - f)) (wr) HJn.out (by
          have := HPR.out.length_le
          rw [HN.out, List.length_append, List.length_singleton] at this
          omega) (by
          have := HPR.out
          rw [HN.out] at this
          exact this.subset (by simp))
        gi_wp2_with (refine hR.mono ?_; rintro en W5 ⟨ans, rfl, hans⟩)
        all_goals clear hy hR
        all_goals have HANS := Lib.hid hans
        all_goals clear hans
        all_goals rcases HANS.out with ⟨rfl, hJ3, hk3⟩ | ⟨rfl, hJx3⟩
        all_goals clear HANS
        all_goals first
          | (exfalso; simp_all; done)
          | exact ⟨⟨n + 1, by omega, by simp, by rw [HN.out]; simp, by rw [HN.out]; exact hJ3, HNk.out.trans hk3⟩, by simp [intOf]; omega⟩
          | exact bodyPost_ret (results_none rfl _ _ _) rfl ⟨⟨_, rfl⟩, .inr ⟨_, by have := HPR.out; rw [HN.out] at this; exact this, hJx3⟩⟩
    · obtain rfl : n = s.length := by omega
      have HZ := Lib.hid (show (clF s s.length).1 = clL s from rfl)
      gi_wp2_with (fail)
      go_end0
      exact ⟨⟨_, rfl⟩, .inl ⟨_, rfl, by rw [← HZ.out]; exact HJn.out⟩⟩
end Go.Proofs.YtjmebijckcimoaaGreatDoor


namespace Go.Proofs.YtjmebijckcimoaaGreatDoor
open Go.RowKit Go.Ap Go.Shelf Go.Proofs

attribute [local go_sem] Oper.semAt_some bs_toList empty_toList bs_size bs_extract

theorem clusters (s : ByteArray) (w : World) :
    Calls Tryz.prog 155 #[.string s] w fun e w' => e = .returned (.func (.func 164) #[] #[.pointer (some ⟨w.heap.size, 0, none⟩)]) ∧
      w' = w.alloc (.cells #[.string s] 9) := by
  go_enter Tryz.func155, Tryz.ntmps155
  go_wp2
  go_ret
  exact ⟨rfl, rfl⟩

/-- the iterator value: the clusters, in order, each with the proof that it is one -/
theorem clusters_stopsP (s : Str) (w w0 : World) (hs : s.length ≤ 4611686018427387903) (Bw : Nat) (_hb0 : Below w0.heap.size w0 w)
    (hw : w.cell? ⟨Bw, 0, none⟩ = some (.string (bs s))) (m : Nat) (hm : 1 ≤ m) :
    SeqStopsK Fence.wide m Tryz.prog 164 #[.pointer (some ⟨Bw, 0, none⟩)] (fun x : {x : Clu // x ∈ clL s} => #[Value.int .i64 x.1.1, Value.string (bs x.1.2)]) (KeepR w0.heap.size Bw Bw) (fun ys => ys.map (·.1) = clL s) (fun pre => pre.map (·.1) <+: clL s) (clL s).length w :=
  fun l J Jx W hW _ _ hY h0 => by
    have hres := clusters_it Fence.wide rfl m hm l Bw w0.heap.size s (fun pre W => ∃ pre' : List {x : Clu // x ∈ clL s}, pre'.map (·.1) = pre ∧ J pre' W) (fun pre W => ∃ pre' : List {x : Clu // x ∈ clL s}, pre'.map (·.1) = pre ∧ Jx pre' W) hs
      (fun pre x W h1 h2 h3 => by
        obtain ⟨pre', rfl, hJ1⟩ := h1
        refine (hY pre' ⟨x, h3⟩ W hJ1 (by simpa using h2)).mono fun en W' h => ?_
        rcases h with ⟨e1, e2, e3⟩ | ⟨e1, e2⟩
        · exact .inl ⟨e1, ⟨_, by simp, e2⟩, e3⟩
        · exact .inr ⟨e1, ⟨_, by simp, e2⟩⟩) W (cell_keep hW hw) ⟨[], rfl, h0⟩
    refine hres.mono fun en W' h => ⟨h.1, ?_⟩
    rcases h.2 with ⟨zs, hz, p, hp, hJ1⟩ | ⟨pre, hpre, p, hp, hJ1⟩
    · exact .inl ⟨p, hp.trans hz, hJ1⟩
    · exact .inr ⟨p, by rw [← hp] at hpre; exact hpre, hJ1⟩

theorem check_ok {s : Str} {ys : List {x : Clu // x ∈ clL s}} (h : ys.map (·.1) = clL s) (h2 : ∀ y ∈ ys, okC y.1 = true) : marksB false s = true := by
  rw [← clL_marks, List.all_eq_true, ← h]
  intro x hx
  obtain ⟨y, hy, rfl⟩ := List.mem_map.1 hx
  exact h2 y hy
theorem check_no {s : Str} (y : {x : Clu // x ∈ clL s}) (h2 : okC y.1 = false) : marksB false s = false := by
  rw [← clL_marks]
  cases h : (clL s).all okC
  · rfl
  · rw [List.all_eq_true.1 h _ y.2] at h2
    cases h2

set_option maxRecDepth 100000 in
set_option maxHeartbeats 2000000 in
theorem chkC (s : Str) (w : World) (hs : s.length ≤ 4611686018427387903) :
    CallsIn Fence.wide 10 Tryz.prog 142 #[.string (bs s)] w fun e W' => e = .returned (.int .i64 (chkS s)) ∧ Below w.heap.size w W' := by
  have hFc : Fence.wide.fn 155 := trivial
  have hFk : Fence.wide.fn 140 := trivial
  have eg : ∀ args w, (callFunc 164 args).run Tryz.prog w = .ok (.enter 164 args) w := enters_of Tryz.func164 (by kernel_rfl) rfl
  refine callsIn_of_wp_marks Tryz.func142 rfl trivial ?_ rfl
  simp only [Tryz.ntmps142, List.size_toArray, List.length_cons, List.length_nil, Nat.reduceAdd, Nat.reduceSub, Array.replicate_succ, Array.replicate_zero, List.push_toArray, List.append_toArray, List.nil_append, List.cons_append]
  by_cases hl : 65536 < s.length
  · have h1 : chkS s = 4 := by rw [chkS, if_pos hl]
    have h2 : decide ((65536 : Int) < (s.length : Int)) = true := by simp; omega
    rw [h1]
    clear h1 hl
    gi_wp2_with (fail)
    have e1 := box_cell w (.int .i64 4) 32
    refine ⟨.int .i64 4, ?_, rfl, balloc _ _⟩
    simp [results, Tryz.f142, go_sem, e1]
  · have h1 : chkS s = if marksB false s = true then 0 else 11 := by rw [chkS, if_neg hl]
    have h2 : decide ((65536 : Int) < (s.length : Int)) = false := by simp; omega
    obtain ⟨r, hr⟩ : ∃ r, chkS s = r := ⟨_, rfl⟩
    have HR := Lib.hid (hr.symm.trans h1)
    rw [hr]
    clear h1 hl hr
    gi_wp2_with (fail)
    refine (callsIn_wide.2 (clusters _ _)).mono ?_
    rintro e w' ⟨rfl, hw'⟩
    simp only [World.size_alloc] at hw' ⊢
    have b1 : Boxed w' w.heap.size 32 (.int .i64 0) := by rw [hw']; exact ((Boxed.new w _ _).alloc _)
    have hB : Below w.heap.size w w' := by rw [hw']; exact (((Below.refl _ w).alloc (Nat.le_refl _) _).alloc (by simp) _)
    have hsz : w'.heap.size = w.heap.size + 2 := by rw [hw']; simp
    have cw : w'.cell? ⟨w.heap.size + 1, 0, none⟩ = some (.string (bs s)) := by rw [hw']; exact cell_fresh (by simp) rfl
    have HS := Lib.hid (fun m hm => clusters_stopsP s w' w hs (w.heap.size + 1) hB cw m hm)
    clear hw' cw
    gi_wp2_with (fail)
    refine wpIn_rangeFunc_ownG (F := Fence.wide) rfl (by omega) (gf := 164) rfl trivial eg
      (HS.out _ (by omega)) KeepR.trans (keepR_b (w := w') (by omega) (by omega) (by omega)) (Below.refl _ _) (fun _ => rfl)
      (fun (pre : List {x : Clu // x ∈ clL s}) W => ((∀ y ∈ pre, okC y.1 = true) ∧ Boxed W w.heap.size 32 (.int .i64 0)) ∧ Below w.heap.size w W)
      (fun c (_ : List {x : Clu // x ∈ clL s}) W => ((c = .ret ∧ marksB false s = false) ∧ Boxed W w.heap.size 32 (.int .i64 11)) ∧ Below w.heap.size w W)
      (OwnFrom.and (fun _ _ _ _ hs hg hr => ⟨hs.1, boxed_k hs.2 hg hr⟩) (ownFrom_below (Nat.le_refl _) (by omega)))
      (fun _ => OwnFrom.and (fun _ _ _ _ hs hg hr => ⟨hs.1, boxed_k hs.2 hg hr⟩) (ownFrom_below (Nat.le_refl _) (by omega)))
      ⟨⟨(fun _ h => by cases h), b1⟩, hB⟩
      (fun x => { tmps := #[.string (bs s), undef, .pointer (some ⟨w.heap.size, 0, none⟩), undef, .string (bs x.1.2), undef, .string (bs s), .int .i64 s.length, .bool false, .string (bs s), .func (.func 164) #[] #[.pointer (some ⟨w.heap.size + 1, 0, none⟩)], .int .i64 x.1.1, .string (bs x.1.2), undef, undef, undef, undef, undef, undef, undef, undef, undef], defers := [] }) ?assign ?body ?done ?stop
    case assign =>
      intro l x W K hK
      gi_wp2
      exact hK
    case body =>
      rintro l pre ⟨⟨f, x⟩, hx⟩ W ⟨⟨hp, h1⟩, hb⟩ _
      have HX := Lib.hid hx
      have hx2 := clF_mem (Nat.le_refl _) _ hx
      have HP := Lib.hid hp
      have c1 := h1.cell
      have f1 := h1.frozen
      have B1 := Lib.hid h1
      clear h1 hp
      cases x with
      | nil => exact absurd hx2.2.1 (by simp)
      | cons c t =>
        clear hx2
        have HK := Lib.hid (fun w => kindPc c w)
        have HO := Lib.hid (show okC (f, c :: t) = (decide (wk c ≠ 0) && decide (wk c ≠ 2)) from rfl)
        by_cases h0 : wk c = 0
        · rw [h0] at HK
          have HN := Lib.hid (check_no ⟨(f, c :: t), hx⟩ (by rw [HO.out, h0]; rfl))
          clear h0
          gi_wp2_with (fail)
          refine CallsIn.inRound l ((callsIn_wide.2 (HK.out _)).mono ?_)
          rintro e w1 ⟨rfl, rfl⟩
          gi_wp2_with (fail)
          exact ⟨(KeepsOthers.setCell _ _ _).from _, ⟨⟨rfl, HN.out⟩, B1.out.set _⟩, hb.setCell (p := ⟨w.heap.size, 0, none⟩) (by simp) _⟩
        · by_cases h2 : wk c = 2
          · rw [h2] at HK
            have HN := Lib.hid (check_no ⟨(f, c :: t), hx⟩ (by rw [HO.out, h2]; rfl))
            clear h2 h0
            gi_wp2_with (fail)
            refine CallsIn.inRound l ((callsIn_wide.2 (HK.out _)).mono ?_)
            rintro e w1 ⟨rfl, rfl⟩
            gi_wp2_with (fail)
            exact ⟨(KeepsOthers.setCell _ _ _).from _, ⟨⟨rfl, HN.out⟩, B1.out.set _⟩, hb.setCell (p := ⟨w.heap.size, 0, none⟩) (by simp) _⟩
          · have HT := Lib.hid (show okC (f, c :: t) = true by rw [HO.out]; simp [h0, h2])
            have e0 : (wk c == 0) = false := by rw [beq_eq_false_iff_ne]; exact h0
            have e2 : (wk c == 2) = false := by rw [beq_eq_false_iff_ne]; exact h2
            clear HO
            generalize wk c = kc at *
            clear h2 h0
            gi_wp2_with (fail)
            refine CallsIn.inRound l ((callsIn_wide.2 (HK.out _)).mono ?_)
            rintro e w1 ⟨rfl, rfl⟩
            gi_wp2_with (fail)
            exact ⟨KeepsFrom.refl _ _, KeepR.refl _ _ _ _, ⟨List.forall_mem_append.2 ⟨HP.out, List.forall_mem_singleton.2 HT.out⟩, B1.out⟩, hb⟩
    case done =>
      rintro D ys W hD hn ⟨⟨hp, h1⟩, hb⟩ hK
      have HN := Lib.hid hn
      have HP := Lib.hid hp
      have c1 := h1.cell
      have f1 := h1.frozen
      have B1 := Lib.hid h1
      clear h1 hn hp
      gi_wp2_with (fail)
      have hK' := (KeepsOthers.setCell W ⟨w.heap.size, 0, none⟩ (.int .i64 0)).same D _ hK rfl
      refine ⟨by simp, .inl ⟨_, _, rfl, run_takeDeferred hK', ?_⟩⟩
      have e1 := ((B1.out.set (.int .i64 0)).kept (grownBy_putObj' _ D (.deferred none)) (by simp; omega)).cell
      refine ⟨.int .i64 0, ?_, ?_, (hb.setCell (p := ⟨w.heap.size, 0, none⟩) (by simp) _).trans (belowK_b (w := w) (Nat.le_refl _) _ D _ _ (by omega) hK' rfl rfl)⟩
      · simp [results, Tryz.f142, go_sem, e1]
      · rw [HR.out, if_pos (check_ok HN.out HP.out)]
    case stop =>
      rintro D c pre W hD hpre ⟨⟨⟨rfl, hm⟩, h1⟩, hb⟩ hK
      have HM := Lib.hid hm
      have B1 := Lib.hid h1
      clear h1 hpre hm
      gi_wp2_with (fail)
      refine ⟨by simp, .inl ⟨_, _, rfl, run_takeDeferred hK, ?_⟩⟩
      have e1 := (B1.out.kept (grownBy_putObj' _ D (.deferred none)) (by simp; omega)).cell
      refine ⟨.int .i64 11, ?_, ?_, hb.trans (belowK_b (w := w) (Nat.le_refl _) W D _ _ (by omega) hK rfl rfl)⟩
      · simp [results, Tryz.f142, go_sem, e1]
      · rw [HR.out, if_neg (by rw [HM.out]; exact Bool.false_ne_true)]
/-- the same, as a plain contract -/
theorem chkP (s : Str) (w : World) (hs : s.length ≤ 4611686018427387903) :
    Calls Tryz.prog 142 #[.string (bs s)] w fun e W' => e = .returned (.int .i64 (chkS s)) ∧ Below w.heap.size w W' := callsIn_wide.1 (chkC s w hs)
end Go.Proofs.YtjmebijckcimoaaGreatDoor



namespace Go.Proofs.YtjmebijckcimoaaGreatDoor
open Go.RowKit Go.Ap Go.Shelf Go.Proofs

attribute [local go_sem] Oper.semAt_some bs_toList empty_toList bs_size bs_extract

def ByteR (_ : World) (v : Value) (x : UInt8) : Prop := v = .int .u8 (x.toNat : Int)
set_option maxHeartbeats 400000 in
theorem idxBytes {α : Type} {R : World → Value → α → Prop} (p : α → Bool) (a : Option Addr) (n c : Nat) (xs : List α) (g : Nat) (cap : Array Value) (w : World) (h : Sl R w a n xs)
    (eg : ∀ args w, (callFunc g args).run Tryz.prog w = .ok (.enter g args) w)
    (hp : ∀ x v, x ∈ xs → R w v x → Calls Tryz.prog g (#[v] ++ cap) w fun e w' => e = .returned (.bool (p x)) ∧ w = w') :
    Calls Tryz.prog 156 #[.slice a n c, .func (.func g) #[] cap] w fun e w' => e = .returned (.int .i64 (idxF p xs)) ∧ w = w' := by
  have hlen := h.len
  have hsm := h.small
  have HL := Lib.hid hlen
  have HP := Lib.hid hp
  clear hlen hp
  go_enter Tryz.func156, Tryz.ntmps156
  go_wp2_with (fail)
  go_loopw [8] (fun i wr => ∃ k : Nat, k ≤ n ∧ i = .int .i64 k ∧ w = wr ∧ idxG (pAt p xs) (n - k) k = idxF p xs) (fun i _ => n - (intOf i).toNat)
  case atStart => exact ⟨0, by omega, rfl, rfl, by unfold idxF; rw [HL.out]; rfl⟩
  case round =>
    obtain ⟨k, hk, rfl, rfl, hch⟩ := hrel
    have HC := Lib.hid hch
    clear hch
    by_cases hlt : k < n
    · obtain ⟨x, b, off, v, hx, rfl, hc, hr⟩ := h.at hlt
      obtain ⟨f, hf⟩ : ∃ f, n - k = f + 1 := ⟨n - k - 1, by omega⟩
      have HF := Lib.hid hf
      have hpa : pAt p xs k = p x := by simp [pAt, hx]
      have HPA := Lib.hid hpa
      have HX := Lib.hid (List.mem_of_getElem? hx)
      clear hf hx hpa
      go_wp2_with (fail)
      refine (HP.out x v HX.out hr).mono ?_
      rintro e w' ⟨rfl, rfl⟩
      cases hpx : p x
      all_goals
        have HPX := Lib.hid hpx
        clear hpx
        go_wp2_with (fail)
      · exact ⟨⟨k + 1, by omega, by go_num, trivial, by rw [← HC.out, HF.out, idxG_no (HPA.out.trans HPX.out), show n - (k + 1) = f by have := HF.out; omega]⟩, by simp [intOf]; omega⟩
      · go_ret
        exact ⟨ret_i (by rw [← HC.out, HF.out, idxG_yes (HPA.out.trans HPX.out)]), rfl⟩
    · go_wp2_with (fail)
      go_ret
      exact ⟨ret_i (by rw [← HC.out, show n - k = 0 by omega, idxG]), rfl⟩
set_option maxHeartbeats 400000 in
theorem contBytes {α : Type} {R : World → Value → α → Prop} (p : α → Bool) (a : Option Addr) (n c : Nat) (xs : List α) (g : Nat) (cap : Array Value) (w : World) (h : Sl R w a n xs)
    (eg : ∀ args w, (callFunc g args).run Tryz.prog w = .ok (.enter g args) w)
    (hp : ∀ x v, x ∈ xs → R w v x → Calls Tryz.prog g (#[v] ++ cap) w fun e w' => e = .returned (.bool (p x)) ∧ w = w') :
    Calls Tryz.prog 143 #[.slice a n c, .func (.func g) #[] cap] w fun e w' => e = .returned (.bool (xs.any p)) ∧ w = w' := by
  have H := Lib.hid (idxBytes p a n c xs g cap w h eg hp)
  clear hp eg
  go_enter Tryz.func143, Tryz.ntmps143
  go_wp2_with (fail)
  refine (H.out).mono ?_
  rintro e w' ⟨rfl, rfl⟩
  go_wp2_with (fail)
  go_ret
  exact ⟨ret_b (idxF_any p xs), rfl⟩
theorem bytes_sl (w : World) (e : TypeId) (s : Str) (hs : s.length ≤ 4611686018427387903) : Sl ByteR (Lib.bytesWorld w e (bs s)) (some ⟨w.heap.size, 0, none⟩) s.length s := by
  refine ⟨rfl, hs, fun k x hx => ⟨w.heap.size, 0, .int .u8 (x.toNat : Int), rfl, ?_, rfl⟩⟩
  obtain ⟨hk, rfl⟩ := List.getElem?_eq_some_iff.1 hx
  rw [Nat.zero_add, Lib.bytesWorld_cell w e (bs s) k (by rw [bs_size]; exact hk), bs_list]
  simp [List.getD, hk]
theorem bytes_below (w : World) (e : TypeId) (s : ByteArray) : Below w.heap.size w (Lib.bytesWorld w e s) :=
  ⟨rfl, rfl, rfl, by rw [Lib.bytesWorld_size]; omega, fun k hk => Lib.bytesWorld_at_old w e s k hk⟩
theorem any_psp (s : Str) : s.any pspB = !(s.all fun c => decide (wk c ≤ 4)) := by
  rw [List.any_eq_not_all_not]
  congr 2
  funext c
  rcases wk_seven c with h | h | h | h | h | h | h <;> simp [pspB, h]

set_option maxHeartbeats 2000000 in
theorem isWordP (s : Str) (w : World) (hs : s.length ≤ 4611686018427387903) :
    Calls Tryz.prog 116 #[.string (bs s)] w fun e W' => e = .returned (.bool (isWordB s)) ∧ Below w.heap.size w W' := by
  have H8 := Lib.hid (fun a n c xs w (h : Sl ByteR w a n xs) => contBytes pspB a n c xs 144 #[] w h (enters_of Tryz.func144 (by kernel_rfl) rfl) (fun x v _ hr => by rw [hr]; exact isword1 x w))
  have HC := Lib.hid (chkP s w hs)
  cases s with
  | nil =>
    go_enter Tryz.func116, Tryz.ntmps116
    go_wp2_with (fail)
    go_ret
    exact ⟨rfl, Below.refl _ _⟩
  | cons c t =>
    have HE := Lib.hid (show isWordB (c :: t) = (decide ((c :: t).length ≤ 64) && marksB false (c :: t) && letB c && ((c :: t).all fun c => decide (wk c ≤ 4))) by simp [isWordB])
    have HA := Lib.hid (any_psp (c :: t))
    have HK := Lib.hid (fun w => kindPc c w)
    have HL := Lib.hid (show letB c = letBK (wk c) from rfl)
    have HS := Lib.hid (wk_seven c)
    have HY := Lib.hid (fun w => bytes_sl w 5 (c :: t) hs)
    have HB := Lib.hid (fun w => bytes_below w 5 (bs (c :: t)))
    have kc := fun (w : World) => Lib.run_convert_string_bytes (P := Tryz.prog) w 9 104 5 (bs (c :: t)) Tryz.underlying9 Tryz.underlying104 Tryz.underlying5
    by_cases hl : (c :: t).length ≤ 64
    · have d1 : decide ((64 : Int) < (t.length : Int) + 1) = false := by simp at hl ⊢; omega
      have h1 : chkS (c :: t) = if marksB false (c :: t) = true then 0 else 11 := by rw [chkS, if_neg (by omega)]
      have HD := Lib.hid (show decide ((c :: t).length ≤ 64) = true by simpa using hl)
      rw [h1] at HC
      clear h1 hl
      cases hm : marksB false (c :: t)
      · rw [hm] at HC
        have HM := Lib.hid hm
        clear hm
        go_enter Tryz.func116, Tryz.ntmps116
        go_wp2_with (fail)
        refine HC.out.mono ?_
        rintro e w1 ⟨rfl, hb⟩
        go_wp2_with (fail)
        go_ret
        exact ⟨ret_b (by rw [HE.out, HM.out]; simp), hb⟩
      · rw [hm] at HC
        have HM := Lib.hid hm
        clear hm
        rcases HS.out with h | h | h | h | h | h | h
        all_goals rw [h] at HK HL
        all_goals clear h HS
        all_goals go_enter Tryz.func116, Tryz.ntmps116
        all_goals go_wp2_with (fail)
        all_goals refine HC.out.mono ?_
        all_goals rintro e w1 ⟨rfl, hb⟩
        all_goals go_wp2_with (fail)
        all_goals refine (HK.out _).mono ?_
        all_goals rintro e w2 ⟨rfl, rfl⟩
        all_goals go_wp2_with (fail)
        all_goals first
          | (go_ret; exact ⟨ret_b (by rw [HE.out, HL.out]; simp [letBK]), hb⟩)
          | (refine (H8.out _ _ _ (c :: t) _ (HY.out _)).mono ?_
             rintro e w3 ⟨rfl, rfl⟩
             go_wp2_with (fail)
             go_ret
             exact ⟨ret_b (by have hA := HA.out; rw [List.any_cons] at hA; rw [HE.out, HD.out, HM.out, HL.out, ← Bool.not_or, hA, Bool.not_not]; simp [letBK]), bstep hb (HB.out _)⟩)
    · have d1 : decide ((64 : Int) < (t.length : Int) + 1) = true := by simp at hl ⊢; omega
      have HD := Lib.hid (show decide ((c :: t).length ≤ 64) = false by simpa using hl)
      clear hl
      go_enter Tryz.func116, Tryz.ntmps116
      go_wp2_with (fail)
      go_ret
      exact ⟨ret_b (by rw [HE.out, HD.out]; rfl), Below.refl _ _⟩
end Go.Proofs.YtjmebijckcimoaaGreatDoor




namespace Go.Proofs.YtjmebijckcimoaaGreatDoor
open Go.RowKit Go.Ap Go.Shelf Go.Proofs

attribute [local go_sem] Oper.semAt_some bs_toList empty_toList bs_size bs_extract

/-- the two error values that the library lays -/
def EV (w : World) : Prop := (∃ tp p, w.var? Tryz.prog "strconv.ErrSyntax" = some #[.iface tp p]) ∧ ∃ tp p, w.var? Tryz.prog "strconv.ErrRange" = some #[.iface tp p]
theorem var_below {P : Program} {w w' : World} {n : String} {cs : Array Value} {B : Nat} (hB : w.heap.size ≤ B) (hb : Below B w w') (h : w.var? P n = some cs) : w'.var? P n = some cs := by
  unfold World.var? at h ⊢
  cases hg : P.globalNamed n with
  | none => simp [hg] at h
  | some g =>
    simp only [hg, Option.bind_some] at h ⊢
    have hlt : g < w.heap.size := by
      rcases Nat.lt_or_ge g w.heap.size with h' | h'
      · exact h'
      · simp [Array.getElem?_eq_none h'] at h
    rw [hb.block g (Nat.lt_of_lt_of_le hlt hB)]
    exact h
theorem EV.mono {w w' : World} {B : Nat} (h : EV w) (hB : w.heap.size ≤ B) (hb : Below B w w') : EV w' := by
  obtain ⟨⟨t1, p1, h1⟩, t2, p2, h2⟩ := h
  exact ⟨⟨t1, p1, var_below hB hb h1⟩, t2, p2, var_below hB hb h2⟩

/-- strconv.Atoi at a string that spells no int: an error -/
theorem atoi_bad (s : Str) (w : World) (hs : s.length ≤ 281474976710656) (hv : EV w) (h : ∀ v, Lib.atoiAll s ≠ .ok v) :
    Calls Tryz.prog 145 #[.string (bs s)] w fun e w' => ∃ v t p, e = .returned (.tuple #[.int .i64 v, .iface t p]) ∧ Below w.heap.size w w' := by
  obtain ⟨⟨t1, p1, h1⟩, t2, p2, h2⟩ := hv
  rcases hr : Lib.atoiAll s with v | _ | _
  · exact absurd hr (h v)
  · refine (Tryz.strconv_Atoi_syntax_var (bs s) (by rw [bs_size]; exact hs) (by rw [bs_list]; exact hr) t1 p1 w h1).mono ?_
    rintro e w' ⟨N, rfl, _, _, hb⟩
    exact ⟨_, _, _, rfl, hb⟩
  · refine (Tryz.strconv_Atoi_range_var (bs s) (by rw [bs_size]; exact hs) (by rw [bs_list]; exact hr) t2 p2 w h2).mono ?_
    rintro e w' ⟨N, rfl, _, _, hb⟩
    exact ⟨_, _, _, rfl, hb⟩
theorem atoi_good (s : Str) (w : World) (hs : s.length ≤ 281474976710656) (v : Int) (h : Lib.atoiAll s = .ok v) :
    Calls Tryz.prog 145 #[.string (bs s)] w fun e w' => e = .returned (.tuple #[.int .i64 v, .nilIface]) ∧ Below w.heap.size w w' := by
  refine (Tryz.strconv_Atoi_ok (bs s) (by rw [bs_size]; omega) v (by rw [bs_list]; exact h) w).mono ?_
  rintro e w' ⟨rfl, hw⟩
  refine ⟨rfl, ?_⟩
  rcases hw with rfl | ⟨t, rfl⟩
  · exact Below.refl _ _
  · exact bytes_below _ _ _
theorem itoaP (n : Nat) (hn : n ≤ 64) (w : World) : Calls Tryz.prog 146 #[.int .i64 (n : Int)] w fun e w' => e = .returned (.string (bs (dig2 n))) ∧ w = w' := by
  refine (Tryz.strconv_Itoa_small n (by omega) w).mono ?_
  rintro e w' ⟨rfl, rfl⟩
  rw [dec_dig n (by omega)]
  exact ⟨rfl, rfl⟩
theorem gap_cat (n : Nat) : (({ data := #[91] } : ByteArray) ++ bs (dig2 n) ++ { data := #[93] }).toList = gapS n := by
  have h1 : ({ data := #[91] } : ByteArray) = bs [91] := rfl
  have h2 : ({ data := #[93] } : ByteArray) = bs [93] := rfl
  rw [h1, h2, bs_append, bs_append, bs_toList]
  rfl

set_option maxHeartbeats 2000000 in
theorem gapP (s : Str) (w : World) (hs : s.length ≤ 281474976710656) (hv : EV w) :
    Calls Tryz.prog 117 #[.string (bs s)] w fun e W' => e = .returned (.bool (gapB s)) ∧ Below w.heap.size w W' := by
  have HV := Lib.hid hv
  clear hv
  by_cases h3 : s.length < 3
  · have d1 : decide ((s.length : Int) < 3) = true := by simp; omega
    have HR := Lib.hid (gap_short h3)
    clear h3
    go_enter Tryz.func117, Tryz.ntmps117
    go_wp2_with (fail)
    go_ret
    exact ⟨ret_b HR.out.symm, Below.refl _ _⟩
  · have d1 : decide ((s.length : Int) < 3) = false := by simp; omega
    have p0 : 0 < s.length := by omega
    have p1 : s.length - 1 < s.length := by omega
    have p2 : 3 ≤ s.length := by omega
    have p3 : (1 : Int) ≤ (s.length : Int) - 1 := by omega
    have i0 : 0 < (bs s).size := by rw [bs_size]; exact p0
    have i1 : s.length - 1 < (bs s).size := by rw [bs_size]; exact p1
    by_cases hf : s[0] = 91
    · have e0 : ((((bs s)[0]'i0).toNat : Int) != 91) = false := by have h : (bs s)[0]'i0 = 91 := hf; rw [h]; rfl
      by_cases hl : s[s.length - 1] = 93
      · have e1 : ((((bs s)[s.length - 1]'i1).toNat : Int) != 93) = false := by have h : (bs s)[s.length - 1]'i1 = 93 := hl; rw [h]; rfl
        clear hf hl h3
        have hgi : gapIn s = List.take (s.length - 1 - 1) s.tail := by rw [gapIn, List.drop_one]
        have hml : (List.take (s.length - 1 - 1) s.tail).length ≤ 281474976710656 := by simp; omega
        by_cases hok : ∃ v, Lib.atoiAll (gapIn s) = .ok v
        · obtain ⟨v, hok⟩ := hok
          have HR := Lib.hid (gap_ok hok)
          rw [hgi] at hok
          have HA := Lib.hid (atoi_good _ w hml v hok)
          clear hok hgi
          by_cases h1 : 1 ≤ v
          · have d2 : decide ((1 : Int) ≤ v) = true := by simpa using h1
            by_cases h2 : v ≤ 64
            · have d3 : decide (v ≤ (64 : Int)) = true := by simpa using h2
              obtain ⟨n, rfl⟩ : ∃ n : Nat, v = n := ⟨v.toNat, by omega⟩
              have HI := Lib.hid (itoaP n (by omega))
              have HE := Lib.hid (gap_cat n)
              have hdl := dig_len n
              have g1 : ¬ 9223372036854775807 < 1 + (dig2 n).length := by omega
              have g2 : ¬ 9223372036854775807 < 1 + (dig2 n).length + 1 := by omega
              go_enter Tryz.func117, Tryz.ntmps117
              go_wp2_with (fail)
              refine HA.out.mono ?_
              rintro e w1 ⟨rfl, hb⟩
              go_wp2_with (fail)
              refine (HI.out _).mono ?_
              rintro e w2 ⟨rfl, rfl⟩
              go_wp2_with (fail)
              go_ret
              exact ⟨ret_b (by rw [HE.out, HR.out, d2, d3, Int.toNat_natCast]; rw [Bool.eq_iff_iff]; simp), hb⟩
            · have d3 : decide (v ≤ (64 : Int)) = false := by simpa using h2
              go_enter Tryz.func117, Tryz.ntmps117
              go_wp2_with (fail)
              refine HA.out.mono ?_
              rintro e w1 ⟨rfl, hb⟩
              go_wp2_with (fail)
              go_ret
              exact ⟨ret_b (by rw [HR.out, d3]; simp), hb⟩
          · have d2 : decide ((1 : Int) ≤ v) = false := by simpa using h1
            go_enter Tryz.func117, Tryz.ntmps117
            go_wp2_with (fail)
            refine HA.out.mono ?_
            rintro e w1 ⟨rfl, hb⟩
            go_wp2_with (fail)
            go_ret
            exact ⟨ret_b (by rw [HR.out, d2]; simp), hb⟩
        · have hno : ∀ v, Lib.atoiAll (gapIn s) ≠ .ok v := fun v h => hok ⟨v, h⟩
          have HR := Lib.hid (gap_err hno)
          rw [hgi] at hno
          have HA := Lib.hid (atoi_bad _ w hml HV.out hno)
          clear hno hok hgi
          go_enter Tryz.func117, Tryz.ntmps117
          go_wp2_with (fail)
          refine HA.out.mono ?_
          rintro e w1 ⟨v, t, p, rfl, hb⟩
          go_wp2_with (fail)
          go_ret
          exact ⟨ret_b HR.out.symm, hb⟩
      · have HR := Lib.hid (gap_last p1 hl)
        have e1 : ((((bs s)[s.length - 1]'i1).toNat : Int) != 93) = true := by
          rw [bne_iff_ne]
          intro h
          have h' : ((bs s)[s.length - 1]'i1).toNat = 93 := by omega
          exact hl (UInt8.toNat_inj.1 h')
        clear hf hl h3
        go_enter Tryz.func117, Tryz.ntmps117
        go_wp2_with (fail)
        go_ret
        exact ⟨ret_b HR.out.symm, Below.refl _ _⟩
    · have HR := Lib.hid (gap_first p0 hf)
      have e0 : ((((bs s)[0]'i0).toNat : Int) != 91) = true := by
        rw [bne_iff_ne]
        intro h
        have h' : ((bs s)[0]'i0).toNat = 91 := by omega
        exact hf (UInt8.toNat_inj.1 h')
      clear hf h3
      go_enter Tryz.func117, Tryz.ntmps117
      go_wp2_with (fail)
      go_ret
      exact ⟨ret_b HR.out.symm, Below.refl _ _⟩
end Go.Proofs.YtjmebijckcimoaaGreatDoor
