/-
  The reference's Check; check and the reference's check.
-/
import Derived.Test.YtamdonlncfmmmaaW4
namespace Go.Proofs.Ytamdonlncfmmmaa
open Go.RowKit Go.Ap Go.Shelf Go.Proofs
attribute [local go_sem] bs_toList empty_toList bs_size

set_option maxRecDepth 100000 in
set_option maxHeartbeats 4000000 in
theorem refcheck31 (a : Option Addr) (n c : Nat) (rs : List Rule) (w : World) (h : Rls w a n rs) :
    Calls Try.prog 31 #[.slice a n c] w fun e w' => e = .returned (.int .i64 (chkR rs)) ∧ ∃ q, w' = w.drewN q := by
  have hsm := h.small
  have HL := Lib.hid h.len
  have HH := Lib.hid h
  clear h
  by_cases hn : 64 < n
  · have K : chkR rs = 4 := by rw [chkR, if_pos (by rw [HL.out]; exact hn)]
    rw [K]
    clear K
    have d : decide (64 < (n : Int)) = true := by simp; omega
    go_enter Try.func31, Try.ntmps31
    go_wp2_with (fail)
    go_ret
    exact ⟨rfl, 0, rfl⟩
  · have HK := Lib.hid (show chkR rs = badR rs by rw [chkR, if_neg (by rw [HL.out]; exact hn)])
    have d : decide (64 < (n : Int)) = false := by simp; omega
    go_enter Try.func31, Try.ntmps31
    go_wp2_with (fail)
    go_loopw [3] (fun i wr => ∃ k q : Nat, k ≤ n ∧ i = .int .i64 k ∧ badR (rs.drop k) = badR rs ∧ wr = w.drewN q) (fun i _ => n - (intOf i).toNat)
    case atStart => exact ⟨0, 0, Nat.zero_le _, rfl, rfl, rfl⟩
    case round =>
      obtain ⟨k, q, hk, rfl, hb, rfl⟩ := hrel
      have HBD := Lib.hid hb
      clear hb
      by_cases hlt : k < n
      · obtain ⟨⟨x, y⟩, b, off, hxx, rfl, hc1, hc2, hl1, hl2⟩ := HH.out.at hlt
        simp only at hc1 hc2 hl1 hl2
        have HXX := Lib.hid (badR_take hxx HBD.out)
        clear hxx HBD
        have HX := Lib.hid (fun W => (letters47 (bs x) W (by rw [bs_size]; exact hl1)))
        have HY := Lib.hid (fun W => (letters47 (bs y) W (by rw [bs_size]; exact hl2)))
        go_wp2_with (fail)
        go_quiet (fail)
        by_cases h1 : x = []
        · have HQ := Lib.hid (show badR rs = 5 by rw [HXX.out.2 (by rw [show rightB (x, y) = 5 by simp [rightB, h1]]; decide)]; simp [rightB, h1])
          clear HXX
          have e1 : (x == []) = true := by simpa using h1
          have e1b : x.isEmpty = true := by simpa using h1
          clear h1 HX HY
          go_wp2_with (fail)
          go_ret
          exact ⟨ret_int (by rw [HK.out, HQ.out]), _, rfl⟩
        have e1 : (x == []) = false := by simpa using h1
        have e1b : x.isEmpty = false := by simpa using h1
        by_cases h2 : y = []
        · have HQ := Lib.hid (show badR rs = 5 by rw [HXX.out.2 (by rw [show rightB (x, y) = 5 by simp [rightB, h2]]; decide)]; simp [rightB, h2])
          clear HXX
          have e2 : (y == []) = true := by simpa using h2
          have e2b : y.isEmpty = true := by simpa using h2
          clear h1 h2 HX HY
          go_wp2_with (fail)
          go_ret
          exact ⟨ret_int (by rw [HK.out, HQ.out]), _, rfl⟩
        have e2 : (y == []) = false := by simpa using h2
        have e2b : y.isEmpty = false := by simpa using h2
        by_cases h3 : 64 < x.length
        · have HQ := Lib.hid (show badR rs = 4 by rw [HXX.out.2 (by rw [show rightB (x, y) = 4 by simp [rightB, h1, h2, h3]]; decide)]; simp [rightB, h1, h2, h3])
          clear HXX
          have d3 : decide (64 < (x.length : Int)) = true := by simp; omega
          clear h1 h2 h3 HX HY
          go_wp2_with (fail)
          go_ret
          exact ⟨ret_int (by rw [HK.out, HQ.out]), _, rfl⟩
        have d3 : decide (64 < (x.length : Int)) = false := by simp; omega
        by_cases h4 : 64 < y.length
        · have HQ := Lib.hid (show badR rs = 4 by rw [HXX.out.2 (by rw [show rightB (x, y) = 4 by simp [rightB, h1, h2, h4]]; decide)]; simp [rightB, h1, h2, h4])
          clear HXX
          have d4 : decide (64 < (y.length : Int)) = true := by simp; omega
          clear h1 h2 h3 h4 HX HY
          go_wp2_with (fail)
          go_ret
          exact ⟨ret_int (by rw [HK.out, HQ.out]), _, rfl⟩
        have d4 : decide (64 < (y.length : Int)) = false := by simp; omega
        have HXo := HX.out
        have HYo := HY.out
        clear HX HY
        simp only [bs_list] at HXo HYo
        cases h5 : wordB x
        · have HQ := Lib.hid (show badR rs = 11 by rw [HXX.out.2 (by rw [show rightB (x, y) = 11 by simp [rightB, h1, h2, h5]; omega]; decide)]; simp [rightB, h1, h2, h5]; omega)
          clear HXX
          rw [h5] at HXo
          have HX := Lib.hid HXo
          have HY := Lib.hid HYo
          clear HXo HYo
          clear h1 h2 h3 h4 h5
          go_wp2_with (fail)
          refine (HX.out _).mono ?_
          rintro e w1 ⟨rfl, rfl⟩
          go_wp2_with (fail)
          go_ret
          exact ⟨ret_int (by rw [HK.out, HQ.out]), _, rfl⟩
        rw [h5] at HXo
        cases h6 : wordB y
        · have HQ := Lib.hid (show badR rs = 11 by rw [HXX.out.2 (by rw [show rightB (x, y) = 11 by simp [rightB, h1, h2, h6]; omega]; decide)]; simp [rightB, h1, h2, h6]; omega)
          clear HXX
          rw [h6] at HYo
          have HX := Lib.hid HXo
          have HY := Lib.hid HYo
          clear HXo HYo
          clear h1 h2 h3 h4 h5 h6
          go_wp2_with (fail)
          refine (HX.out _).mono ?_
          rintro e w1 ⟨rfl, rfl⟩
          go_wp2_with (fail)
          refine (HY.out _).mono ?_
          rintro e w1 ⟨rfl, rfl⟩
          go_wp2_with (fail)
          go_ret
          exact ⟨ret_int (by rw [HK.out, HQ.out]), _, rfl⟩
        rw [h6] at HYo
        have KK : rightB (x, y) = if x.length < y.length ∨ (y.length = x.length ∧ ¬ y < x) then 24 else 0 := by
          simp only [rightB, h1, h2, h5, h6]
          rw [if_neg (by simp), if_neg (by omega), if_neg (by simp)]
        by_cases h7 : x.length < y.length
        · have HQ := Lib.hid (show badR rs = 24 by rw [HXX.out.2 (by rw [show rightB (x, y) = 24 by rw [KK, if_pos (.inl h7)]]; decide)]; rw [KK, if_pos (.inl h7)])
          clear HXX
          clear KK
          have d7 : decide ((x.length : Int) < (y.length : Int)) = true := by simp; omega
          have d7n : decide (x.length < y.length) = true := by simp; omega
          have HX := Lib.hid HXo
          have HY := Lib.hid HYo
          clear HXo HYo
          clear h1 h2 h3 h4 h5 h6 h7
          go_wp2_with (fail)
          refine (HX.out _).mono ?_
          rintro e w1 ⟨rfl, rfl⟩
          go_wp2_with (fail)
          refine (HY.out _).mono ?_
          rintro e w1 ⟨rfl, rfl⟩
          go_wp2_with (fail)
          go_ret
          exact ⟨ret_int (by rw [HK.out, HQ.out]), _, rfl⟩
        have d7 : decide ((x.length : Int) < (y.length : Int)) = false := by simp; omega
        have d7n : decide (x.length < y.length) = false := by simp; omega
        by_cases h8 : y.length = x.length
        · have d8 : ((y.length : Int) == (x.length : Int)) = true := by simp; omega
          by_cases h9 : y < x
          · have HQ := Lib.hid (HXX.out.1 (by rw [KK, if_neg (by simp only [h9, not_true, and_false, or_false]; exact h7)]))
            clear HXX
            clear KK
            have d9 : Op.bytesLess y x = true := by rw [less_eq]; simpa using h9
            have HX := Lib.hid HXo
            have HY := Lib.hid HYo
            clear HXo HYo
            clear h1 h2 h3 h4 h5 h6 h7 h8 h9
            go_wp2_with (fail)
            refine (HX.out _).mono ?_
            rintro e w1 ⟨rfl, rfl⟩
            go_wp2_with (fail)
            refine (HY.out _).mono ?_
            rintro e w1 ⟨rfl, rfl⟩
            go_wp2_with (fail)
            go_roundw
            case rel => exact ⟨k + 1, _, by omega, by go_num, HQ.out, rfl⟩
            case measure => simp [intOf]; omega
          · have HQ := Lib.hid (show badR rs = 24 by rw [HXX.out.2 (by rw [show rightB (x, y) = 24 by rw [KK, if_pos (.inr ⟨h8, h9⟩)]]; decide)]; rw [KK, if_pos (.inr ⟨h8, h9⟩)])
            clear HXX
            clear KK
            have d9 : Op.bytesLess y x = false := by rw [less_eq]; simpa using h9
            have HX := Lib.hid HXo
            have HY := Lib.hid HYo
            clear HXo HYo
            clear h1 h2 h3 h4 h5 h6 h7 h8 h9
            go_wp2_with (fail)
            refine (HX.out _).mono ?_
            rintro e w1 ⟨rfl, rfl⟩
            go_wp2_with (fail)
            refine (HY.out _).mono ?_
            rintro e w1 ⟨rfl, rfl⟩
            go_wp2_with (fail)
            go_ret
            exact ⟨ret_int (by rw [HK.out, HQ.out]), _, rfl⟩
        · have HQ := Lib.hid (HXX.out.1 (by rw [KK, if_neg (by omega)]))
          clear HXX
          clear KK
          have d8 : ((y.length : Int) == (x.length : Int)) = false := by simp; omega
          have HX := Lib.hid HXo
          have HY := Lib.hid HYo
          clear HXo HYo
          clear h1 h2 h3 h4 h5 h6 h7 h8
          go_wp2_with (fail)
          refine (HX.out _).mono ?_
          rintro e w1 ⟨rfl, rfl⟩
          go_wp2_with (fail)
          refine (HY.out _).mono ?_
          rintro e w1 ⟨rfl, rfl⟩
          go_wp2_with (fail)
          go_roundw
          case rel => exact ⟨k + 1, _, by omega, by go_num, HQ.out, rfl⟩
          case measure => simp [intOf]; omega
      · obtain rfl : n = k := by omega
        go_wp2_with (fail)
        go_ret
        exact ⟨ret_int (by rw [HK.out, ← HBD.out, List.drop_eq_nil_of_le (by rw [HL.out]; omega)]; rfl), _, rfl⟩

set_option maxRecDepth 100000 in
theorem check36 (a : Option Addr) (n c : Nat) (rs : List Rule) (s : Str) (w : World) (h : Rls w a n rs) (hs : s.length ≤ 4611686018427387903) :
    Calls Try.prog 36 #[.slice a n c, .string (bs s)] w fun e w' => e = .returned (.int .i64 (chkW rs s)) ∧ Below w.heap.size w w' := by
  have H1 := check30 a n c rs w h
  have H2 := fun W => wordly53 (bs s) W (by rw [bs_size]; exact hs)
  simp only [bs_list] at H2
  have HW := Lib.hid (show chkW rs s = if chkR rs ≠ 0 then 1 else if 64 < s.length then 4 else if wordB s = false then 11 else 0 from rfl)
  generalize chkR rs = r at *
  have H1 := Lib.hid H1
  clear h
  by_cases hr : r = 0
  · have e1 : (r != 0) = false := by simpa using hr
    by_cases hl : 64 < s.length
    · have d : decide (64 < (s.length : Int)) = true := by simp; omega
      have HV := Lib.hid (show chkW rs s = 4 by rw [HW.out, if_neg (by simp [hr]), if_pos hl])
      clear hr hl H2 HW
      go_enter Try.func36, Try.ntmps36
      go_wp2_with (fail)
      refine H1.out.mono ?_
      rintro e w1 ⟨rfl, B⟩
      go_wp2_with (fail)
      go_ret
      exact ⟨ret_int HV.out.symm, B⟩
    · have d : decide (64 < (s.length : Int)) = false := by simp; omega
      cases hb : wordB s
      · rw [hb] at H2
        have H2 := Lib.hid H2
        have HV := Lib.hid (show chkW rs s = 11 by rw [HW.out, if_neg (by simp [hr]), if_neg hl, if_pos hb])
        clear hr hl hb HW
        go_enter Try.func36, Try.ntmps36
        go_wp2_with (fail)
        refine H1.out.mono ?_
        rintro e w1 ⟨rfl, B⟩
        go_wp2_with (fail)
        refine (H2.out _).mono ?_
        rintro e w2 ⟨rfl, rfl⟩
        go_wp2_with (fail)
        go_ret
        exact ⟨ret_int HV.out.symm, B⟩
      · rw [hb] at H2
        have H2 := Lib.hid H2
        have HV := Lib.hid (show chkW rs s = 0 by rw [HW.out, if_neg (by simp [hr]), if_neg hl, if_neg (by simp [hb])])
        clear hr hl hb HW
        go_enter Try.func36, Try.ntmps36
        go_wp2_with (fail)
        refine H1.out.mono ?_
        rintro e w1 ⟨rfl, B⟩
        go_wp2_with (fail)
        refine (H2.out _).mono ?_
        rintro e w2 ⟨rfl, rfl⟩
        go_wp2_with (fail)
        go_ret
        exact ⟨ret_int HV.out.symm, B⟩
  · have e1 : (r != 0) = true := by simpa using hr
    have HV := Lib.hid (show chkW rs s = 1 by rw [HW.out, if_pos hr])
    clear hr H2 HW
    go_enter Try.func36, Try.ntmps36
    go_wp2_with (fail)
    refine H1.out.mono ?_
    rintro e w1 ⟨rfl, B⟩
    go_wp2_with (fail)
    go_ret
    exact ⟨ret_int HV.out.symm, B⟩

set_option maxRecDepth 100000 in
theorem refcheck38 (a : Option Addr) (n c : Nat) (rs : List Rule) (s : Str) (w : World) (h : Rls w a n rs) (hs : s.length ≤ 4611686018427387903) :
    Calls Try.prog 38 #[.slice a n c, .string (bs s)] w fun e w' => e = .returned (.int .i64 (chkW rs s)) ∧ ∃ q, w' = w.drewN q := by
  have H1 := refcheck31 a n c rs w h
  have H2 := fun W => letters47 (bs s) W (by rw [bs_size]; exact hs)
  simp only [bs_list] at H2
  have HW := Lib.hid (show chkW rs s = if chkR rs ≠ 0 then 1 else if 64 < s.length then 4 else if wordB s = false then 11 else 0 from rfl)
  generalize chkR rs = r at *
  have H1 := Lib.hid H1
  clear h
  by_cases hr : r = 0
  · have e1 : (r != 0) = false := by simpa using hr
    by_cases hl : 64 < s.length
    · have d : decide (64 < (s.length : Int)) = true := by simp; omega
      have HV := Lib.hid (show chkW rs s = 4 by rw [HW.out, if_neg (by simp [hr]), if_pos hl])
      clear hr hl H2 HW
      go_enter Try.func38, Try.ntmps38
      go_wp2_with (fail)
      refine H1.out.mono ?_
      rintro e w1 ⟨rfl, B⟩
      go_wp2_with (fail)
      go_ret
      exact ⟨ret_int HV.out.symm, B⟩
    · have d : decide (64 < (s.length : Int)) = false := by simp; omega
      cases hb : wordB s
      · rw [hb] at H2
        have H2 := Lib.hid H2
        have HV := Lib.hid (show chkW rs s = 11 by rw [HW.out, if_neg (by simp [hr]), if_neg hl, if_pos hb])
        clear hr hl hb HW
        go_enter Try.func38, Try.ntmps38
        go_wp2_with (fail)
        refine H1.out.mono ?_
        rintro e w1 ⟨rfl, B⟩
        go_wp2_with (fail)
        refine (H2.out _).mono ?_
        rintro e w2 ⟨rfl, rfl⟩
        go_wp2_with (fail)
        go_ret
        exact ⟨ret_int HV.out.symm, B⟩
      · rw [hb] at H2
        have H2 := Lib.hid H2
        have HV := Lib.hid (show chkW rs s = 0 by rw [HW.out, if_neg (by simp [hr]), if_neg hl, if_neg (by simp [hb])])
        clear hr hl hb HW
        go_enter Try.func38, Try.ntmps38
        go_wp2_with (fail)
        refine H1.out.mono ?_
        rintro e w1 ⟨rfl, B⟩
        go_wp2_with (fail)
        refine (H2.out _).mono ?_
        rintro e w2 ⟨rfl, rfl⟩
        go_wp2_with (fail)
        go_ret
        exact ⟨ret_int HV.out.symm, B⟩
  · have e1 : (r != 0) = true := by simpa using hr
    have HV := Lib.hid (show chkW rs s = 1 by rw [HW.out, if_pos hr])
    clear hr H2 HW
    go_enter Try.func38, Try.ntmps38
    go_wp2_with (fail)
    refine H1.out.mono ?_
    rintro e w1 ⟨rfl, B⟩
    go_wp2_with (fail)
    go_ret
    exact ⟨ret_int HV.out.symm, B⟩

end Go.Proofs.Ytamdonlncfmmmaa
