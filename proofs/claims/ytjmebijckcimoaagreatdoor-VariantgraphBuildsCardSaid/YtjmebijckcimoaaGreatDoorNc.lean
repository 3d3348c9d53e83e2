import Derived.Test.YtjmebijckcimoaaGreatDoorTk
import Derived.Test.YtjmebijckcimoaaGreatDoorPl



namespace Go.Proofs.YtjmebijckcimoaaGreatDoor
open Go.RowKit Go.Ap Go.Shelf Go.Proofs

attribute [local go_sem] Oper.semAt_some bs_toList empty_toList bs_size bs_extract

theorem kindRAt (s : Str) (i : Nat) (h : i < s.length) (w : World) : Calls Tryz.prog 136 #[.int .u8 (((bs s)[i]'(by rw [bs_size]; exact h)).toNat : Int)] w fun e w' => e = .returned (.int .i64 (wkAt s i)) ∧ w = w' := by
  rw [wkAt_of h]; exact kindRc s[i] w
theorem infoBool : (Tryz.prog.info? 4).map (fun i => (i.zero, i.size, i.bytes)) = some (some (.bool false), 1, 1) := by kernel_rfl
theorem ownB_addr {w : World} {base : Nat} {v : Value} {xs : List Bool} {n : Nat} (h : w.ownsRow base 4 1 v n (xs.map Value.bool)) (hn : 0 < n) :
    ∃ b c, v = .slice (some ⟨b, 0, none⟩) n c ∧ ∀ j x, xs[j]? = some x → w.cell? ⟨b, j, none⟩ = some (.bool x) := by
  rcases h.2 with ⟨_, h0⟩ | ⟨g, cap, _, rfl, hb, _⟩
  · omega
  · refine ⟨g, cap, rfl, fun j x hj => ?_⟩
    have hc := World.ownsRow.cells h (g := g) rfl j (.bool x) (by simp [hj])
    have hadd : (⟨g, 0, none⟩ : Addr).add j = ⟨g, j, none⟩ := by unfold Addr.add; split <;> simp_all
    rw [hadd] at hc
    exact hc

set_option maxRecDepth 100000 in
set_option maxHeartbeats 4000000 in
theorem rightR (s : Str) (w : World) (hs : s.length ≤ 65536) :
    Calls Tryz.prog 162 #[.string (bs s)] w fun e w' => ∃ v, e = .returned v ∧ w'.ownsRow w.heap.size 4 1 v s.length ((rtL s s.length).map Value.bool) ∧ Below w.heap.size w w' := by
  obtain ⟨i0, hi, hz0, hz1, hz2⟩ := info_parts infoBool
  go_enter Tryz.func162, Tryz.ntmps162
  go_wp2_with (fail)
  go_loopw [3, 4] (fun ov iv wr => ∃ i : Nat, i ≤ s.length ∧ iv = .int .i64 i ∧ wr.ownsRow w.heap.size 4 1 ov i ((rtL s i).map Value.bool) ∧ Below w.heap.size w wr) (fun _ iv _ => s.length - (intOf iv).toNat)
  case atStart => exact ⟨0, Nat.zero_le _, rfl, World.ownsRow_made w #[] 0 (Nat.le_refl _) (by simp [maxLen]) rfl, balloc _ _⟩
  case round =>
    obtain ⟨i, hi0, rfl, ho, hb⟩ := hrel
    have HO := Lib.hid ho
    have HB := Lib.hid hb
    have hsz := hb.size
    by_cases hlt : i < s.length
    · have HK := Lib.hid (kindRAt s i hlt)
      by_cases h2 : wkAt s i = 2
      · rw [h2] at HK
        cases i with
        | zero =>
          have HR := Lib.hid (show rtB s 0 = false from rfl)
          clear h2 ho hb
          go_wp2_with (fail)
          refine (HK.out _).mono ?_
          rintro e w1 ⟨rfl, rfl⟩
          go_wp2_with (at_builtin; refine wpList_append_own _ rfl _ _ 86 rfl w.heap.size 4 i0 (.bool false) 1 1 Tryz.underlying86 hi hz0 hz1 hz2 rfl (by decide) _ _ _ rfl (HO.out.alloc _) ⟨wr.heap.size, 0, none⟩ 1 1 [.bool (false)] rfl rfl (cell_one_new _ _ _) (by simp [Value.oneCell']) (by unfold maxLen; omega) (by omega) (by simp; omega) ?_; intro v1 w4 hown1 hgrow1 _; have HO2 := Lib.hid hown1; have HG := Lib.hid hgrow1; clear hown1 hgrow1)
          go_roundw
          case rel => exact ⟨0 + 1, by omega, by simp, by rw [rtL_succ, HR.out, List.map_append]; exact HO2.out, (HB.out.alloc hsz _).grown HG.out (by simp; omega) (fun j hj => (HO.out.lt j hj).1)⟩
          case measure => simp [intOf]; omega
        | succ j =>
          have HJ := Lib.hid (kindRAt s j (by omega))
          by_cases h1 : wkAt s j = 1
          · rw [h1] at HJ
            have HR := Lib.hid (show rtB s (j + 1) = true by rw [rtB, h2, h1]; rfl)
            clear h1 h2 ho hb
            go_wp2_with (fail)
            refine (HK.out _).mono ?_
            rintro e w1 ⟨rfl, rfl⟩
            go_wp2_with (fail)
            refine (HJ.out _).mono ?_
            rintro e w1 ⟨rfl, rfl⟩
            go_wp2_with (at_builtin; refine wpList_append_own _ rfl _ _ 86 rfl w.heap.size 4 i0 (.bool false) 1 1 Tryz.underlying86 hi hz0 hz1 hz2 rfl (by decide) _ _ _ rfl (HO.out.alloc _) ⟨wr.heap.size, 0, none⟩ 1 1 [.bool (true)] rfl rfl (cell_one_new _ _ _) (by simp [Value.oneCell']) (by unfold maxLen; omega) (by omega) (by simp; omega) ?_; intro v1 w4 hown1 hgrow1 _; have HO2 := Lib.hid hown1; have HG := Lib.hid hgrow1; clear hown1 hgrow1)
            go_roundw
            case rel => exact ⟨(j + 1) + 1, by omega, by simp, by rw [rtL_succ, HR.out, List.map_append]; exact HO2.out, (HB.out.alloc hsz _).grown HG.out (by simp; omega) (fun j hj => (HO.out.lt j hj).1)⟩
            case measure => simp [intOf]; omega
          · have HR := Lib.hid (show rtB s (j + 1) = rtB s j by rw [rtB, h2, decide_eq_false h1]; rfl)
            have e1 : (wkAt s j == 1) = false := by rw [beq_eq_false_iff_ne]; exact h1
            generalize wkAt s j = kj at *
            obtain ⟨b, c, rfl, hc⟩ := ownB_addr ho (by omega)
            have hcl : wr.cell? ⟨b, j, none⟩ = some (.bool (rtB s j)) := hc j _ (rtL_at (by omega))
            clear h1 h2 ho hb hc
            go_wp2_with (fail)
            refine (HK.out _).mono ?_
            rintro e w1 ⟨rfl, rfl⟩
            go_wp2_with (fail)
            refine (HJ.out _).mono ?_
            rintro e w1 ⟨rfl, rfl⟩
            go_wp2_with (at_builtin; refine wpList_append_own _ rfl _ _ 86 rfl w.heap.size 4 i0 (.bool false) 1 1 Tryz.underlying86 hi hz0 hz1 hz2 rfl (by decide) _ _ _ rfl (HO.out.alloc _) ⟨wr.heap.size, 0, none⟩ 1 1 [.bool (rtB s j)] rfl rfl (cell_one_new _ _ _) (by simp [Value.oneCell']) (by unfold maxLen; omega) (by omega) (by simp; omega) ?_; intro v1 w4 hown1 hgrow1 _; have HO2 := Lib.hid hown1; have HG := Lib.hid hgrow1; clear hown1 hgrow1)
            go_roundw
            case rel => exact ⟨(j + 1) + 1, by omega, by simp, by rw [rtL_succ, HR.out, List.map_append]; exact HO2.out, (HB.out.alloc hsz _).grown HG.out (by simp; omega) (fun j hj => (HO.out.lt j hj).1)⟩
            case measure => simp [intOf]; omega
      · have HR := Lib.hid (show rtB s i = false by rw [rt_may, decide_eq_false h2]; rfl)
        have e2 : (wkAt s i == 2) = false := by rw [beq_eq_false_iff_ne]; exact h2
        generalize wkAt s i = ki at *
        clear h2 ho hb
        go_wp2_with (fail)
        refine (HK.out _).mono ?_
        rintro e w1 ⟨rfl, rfl⟩
        go_wp2_with (at_builtin; refine wpList_append_own _ rfl _ _ 86 rfl w.heap.size 4 i0 (.bool false) 1 1 Tryz.underlying86 hi hz0 hz1 hz2 rfl (by decide) _ _ _ rfl (HO.out.alloc _) ⟨wr.heap.size, 0, none⟩ 1 1 [.bool (false)] rfl rfl (cell_one_new _ _ _) (by simp [Value.oneCell']) (by unfold maxLen; omega) (by omega) (by simp; omega) ?_; intro v1 w4 hown1 hgrow1 _; have HO2 := Lib.hid hown1; have HG := Lib.hid hgrow1; clear hown1 hgrow1)
        go_roundw
        case rel => exact ⟨i + 1, by omega, by simp, by rw [rtL_succ, HR.out, List.map_append]; exact HO2.out, (HB.out.alloc hsz _).grown HG.out (by simp; omega) (fun j hj => (HO.out.lt j hj).1)⟩
        case measure => simp [intOf]; omega
    · obtain rfl : i = s.length := by omega
      clear ho hb
      go_wp2_with (fail)
      go_ret
      exact ⟨_, rfl, HO.out, HB.out⟩
end Go.Proofs.YtjmebijckcimoaaGreatDoor


namespace Go.Proofs.YtjmebijckcimoaaGreatDoor
open Go.RowKit Go.Ap Go.Shelf Go.Proofs

attribute [local go_sem] Oper.semAt_some bs_toList empty_toList bs_size bs_extract

set_option maxHeartbeats 4000000 in
theorem chkR (s : Str) (w : World) (hs : s.length ≤ 4611686018427387903) :
    Calls Tryz.prog 152 #[.string (bs s)] w fun e w' => e = .returned (.int .i64 (chkS s)) ∧ Below w.heap.size w w' := by
  by_cases hl : 65536 < s.length
  · have h1 : chkS s = 4 := by rw [chkS, if_pos hl]
    have h2 : decide ((65536 : Int) < (s.length : Int)) = true := by simp; omega
    rw [h1]
    clear h1 hl
    go_enter Tryz.func152, Tryz.ntmps152
    go_wp2_with (fail)
    go_ret
    exact ⟨rfl, Below.refl _ _⟩
  · have h1 : chkS s = if marksB false s = true then 0 else 11 := by rw [chkS, if_neg hl]
    have h2 : decide ((65536 : Int) < (s.length : Int)) = false := by simp; omega
    have HR := Lib.hid (rightR s w (by omega))
    obtain ⟨r, hr⟩ : ∃ r, chkS s = r := ⟨_, rfl⟩
    have HE := Lib.hid (hr.symm.trans h1)
    rw [hr]
    clear h1 hr
    go_enter Tryz.func152, Tryz.ntmps152
    go_wp2_with (fail)
    refine HR.out.mono ?_
    rintro e w1 ⟨v, rfl, ho, hb⟩
    have HC := Lib.hid (fun (hn : 0 < s.length) => ownB_addr ho hn)
    clear ho
    go_wp2_with (fail)
    go_loopw [4] (fun iv wr => ∃ i : Nat, i ≤ s.length ∧ iv = .int .i64 i ∧ w1 = wr ∧ marksB false s = marksB (mayB s i) (s.drop i)) (fun iv _ => s.length - (intOf iv).toNat)
    case atStart => exact ⟨0, Nat.zero_le _, rfl, rfl, rfl⟩
    case round =>
      obtain ⟨i, hi0, rfl, rfl, hm⟩ := hrel
      have HM := Lib.hid hm
      clear hm
      by_cases hlt : i < s.length
      · have HK := Lib.hid (kindRAt s i hlt)
        obtain ⟨b, c, rfl, hc⟩ := HC.out (by omega)
        have hcl : w1.cell? ⟨b, i, none⟩ = some (.bool (rtB s i)) := hc i _ (rtL_at hlt)
        by_cases h0 : wkAt s i = 0
        · rw [h0] at HK
          have HB := Lib.hid (bad_no hlt HM.out (show badAt s i = true by rw [badAt, h0]; rfl))
          clear h0 hc
          go_wp2_with (fail)
          refine (HK.out _).mono ?_
          rintro e w2 ⟨rfl, rfl⟩
          go_wp2_with (fail)
          go_ret
          exact ⟨ret_i (by rw [HE.out, if_neg (by rw [HB.out]; exact Bool.false_ne_true)]), hb⟩
        · have e0 : (wkAt s i == 0) = false := by rw [beq_eq_false_iff_ne]; exact h0
          by_cases hk : wkAt s i = 2
          · rw [hk] at HK
            cases hrt : rtB s i
            · have HB := Lib.hid (bad_no hlt HM.out (show badAt s i = true by rw [badAt, hk, hrt]; rfl))
              rw [hrt] at hcl
              clear h0 hc hk hrt e0
              go_wp2_with (fail)
              refine (HK.out _).mono ?_
              rintro e w2 ⟨rfl, rfl⟩
              go_wp2_with (fail)
              go_ret
              exact ⟨ret_i (by rw [HE.out, if_neg (by rw [HB.out]; exact Bool.false_ne_true)]), hb⟩
            · have HB := Lib.hid (bad_yes hlt HM.out (show badAt s i = false by rw [badAt, hk, hrt]; rfl))
              rw [hrt] at hcl
              clear h0 hc hk hrt e0
              go_wp2_with (fail)
              refine (HK.out _).mono ?_
              rintro e w2 ⟨rfl, rfl⟩
              go_wp2_with (fail)
              exact ⟨⟨i + 1, by omega, by simp, trivial, HB.out⟩, by simp [intOf]; omega⟩
          · have HB := Lib.hid (bad_yes hlt HM.out (show badAt s i = false by rw [badAt, decide_eq_false h0, decide_eq_false hk]; rfl))
            have e2 : (wkAt s i == 2) = false := by rw [beq_eq_false_iff_ne]; exact hk
            generalize wkAt s i = ki at *
            clear h0 hc hk
            go_wp2_with (fail)
            refine (HK.out _).mono ?_
            rintro e w2 ⟨rfl, rfl⟩
            go_wp2_with (fail)
            exact ⟨⟨i + 1, by omega, by simp, trivial, HB.out⟩, by simp [intOf]; omega⟩
      · obtain rfl : i = s.length := by omega
        have HB := Lib.hid (bad_end HM.out)
        go_wp2_with (fail)
        go_ret
        exact ⟨ret_i (by rw [HE.out, if_pos HB.out]), hb⟩

theorem isWordB_eq {s : Str} (h : 0 < s.length) : isWordB s = (decide (s.length ≤ 64) && marksB false s && letBK (wkAt s 0) && (s.drop 0).all fun c => decide (wk c ≤ 4)) := by
  cases s with
  | nil => simp at h
  | cons c t =>
    have : letBK (wkAt (c :: t) 0) = letB c := rfl
    rw [this, List.drop_zero]
    simp [isWordB]
theorem wkAt_seven (s : Str) (i : Nat) (h : i < s.length) : wkAt s i = 0 ∨ wkAt s i = 1 ∨ wkAt s i = 2 ∨ wkAt s i = 3 ∨ wkAt s i = 4 ∨ wkAt s i = 5 ∨ wkAt s i = 6 := by rw [wkAt_of h]; exact wk_seven _

set_option maxHeartbeats 4000000 in
theorem isWordR (s : Str) (w : World) (hs : s.length ≤ 4611686018427387903) :
    Calls Tryz.prog 132 #[.string (bs s)] w fun e W' => e = .returned (.bool (isWordB s)) ∧ Below w.heap.size w W' := by
  have HC := Lib.hid (chkR s w hs)
  by_cases h0 : s.length < 1
  · have hn : s = [] := List.eq_nil_of_length_eq_zero (by omega)
    subst hn
    clear h0
    go_enter Tryz.func132, Tryz.ntmps132
    go_wp2_with (fail)
    go_ret
    exact ⟨rfl, Below.refl _ _⟩
  · have hp : 0 < s.length := by omega
    have d0 : decide ((s.length : Int) < 1) = false := by simp; omega
    have HE := Lib.hid (isWordB_eq hp)
    by_cases hl : s.length ≤ 64
    · have d1 : decide ((64 : Int) < (s.length : Int)) = false := by simp; omega
      have h1 : chkS s = if marksB false s = true then 0 else 11 := by rw [chkS, if_neg (by omega)]
      have HD := Lib.hid (show decide (s.length ≤ 64) = true by simpa using hl)
      rw [h1] at HC
      clear h1
      cases hm : marksB false s
      · rw [hm] at HC
        have HM := Lib.hid hm
        clear hm hl h0
        go_enter Tryz.func132, Tryz.ntmps132
        go_wp2_with (fail)
        refine HC.out.mono ?_
        rintro e w1 ⟨rfl, hb⟩
        go_wp2_with (fail)
        go_ret
        exact ⟨ret_b (by rw [HE.out, HM.out]; simp), hb⟩
      · rw [hm] at HC
        have HM := Lib.hid hm
        have HK := Lib.hid (kindRAt s 0 hp)
        have HS := Lib.hid (wkAt_seven s 0 hp)
        clear hm h0
        obtain ⟨k0, hk0⟩ : ∃ k, wkAt s 0 = k := ⟨_, rfl⟩
        rw [hk0] at HE HK HS
        clear hk0
        rcases HS.out with rfl | rfl | rfl | rfl | rfl | rfl | rfl
        all_goals clear HS
        all_goals go_enter Tryz.func132, Tryz.ntmps132
        all_goals go_wp2_with (fail)
        all_goals refine HC.out.mono ?_
        all_goals rintro e w1 ⟨rfl, hb⟩
        all_goals have HB := Lib.hid hb
        all_goals clear hb
        all_goals go_wp2_with (fail)
        all_goals refine (HK.out _).mono ?_
        all_goals rintro e w2 ⟨rfl, rfl⟩
        all_goals go_wp2_with (fail)
        all_goals first
          | (go_ret; exact ⟨ret_b (by rw [HE.out]; simp [letBK]), HB.out⟩)
          | skip
        all_goals go_loopw [4] (fun iv wr => ∃ i : Nat, i ≤ s.length ∧ iv = .int .i64 i ∧ w1 = wr ∧ ((s.drop 0).all fun c => decide (wk c ≤ 4)) = ((s.drop i).all fun c => decide (wk c ≤ 4))) (fun iv _ => s.length - (intOf iv).toNat)
        case atStart => exact ⟨0, Nat.zero_le _, rfl, rfl, rfl⟩
        case atStart => exact ⟨0, Nat.zero_le _, rfl, rfl, rfl⟩
        all_goals
          obtain ⟨i, hi0, rfl, rfl, hm⟩ := hrel
          have HA := Lib.hid hm
          clear hm
          by_cases hlt : i < s.length
          · have HKi := Lib.hid (kindRAt s i hlt)
            have HN := Lib.hid (all_at (p := fun c => decide (wk c ≤ 4)) hlt)
            have HW := Lib.hid (wkAt_of hlt)
            by_cases h4 : 4 < wkAt s i
            · have d4 : decide (4 < wkAt s i) = true := by simpa using h4
              have HF := Lib.hid (show decide (wk s[i] ≤ 4) = false by rw [← HW.out]; simpa using h4)
              generalize wkAt s i = ki at *
              clear h4
              go_wp2_with (fail)
              refine (HKi.out _).mono ?_
              rintro e w2 ⟨rfl, rfl⟩
              go_wp2_with (fail)
              go_ret
              exact ⟨ret_b (by rw [HE.out, HA.out, HN.out, HF.out]; simp), HB.out⟩
            · have d4 : decide (4 < wkAt s i) = false := by simpa using h4
              have HF := Lib.hid (show decide (wk s[i] ≤ 4) = true by rw [← HW.out]; simpa using h4)
              generalize wkAt s i = ki at *
              clear h4
              go_wp2_with (fail)
              refine (HKi.out _).mono ?_
              rintro e w2 ⟨rfl, rfl⟩
              go_wp2_with (fail)
              exact ⟨⟨i + 1, by omega, by simp, trivial, by rw [HA.out, HN.out, HF.out, Bool.true_and]⟩, by simp [intOf]; omega⟩
          · obtain rfl : i = s.length := by omega
            go_wp2_with (fail)
            go_ret
            exact ⟨ret_b (by rw [HE.out, HA.out, HD.out, HM.out, List.drop_length]; rfl), HB.out⟩
    · have d1 : decide ((64 : Int) < (s.length : Int)) = true := by simp; omega
      have HD := Lib.hid (show decide (s.length ≤ 64) = false by simpa using hl)
      clear hl h0
      go_enter Tryz.func132, Tryz.ntmps132
      go_wp2_with (fail)
      go_ret
      exact ⟨ret_b (by rw [HE.out, HD.out]; rfl), Below.refl _ _⟩
end Go.Proofs.YtjmebijckcimoaaGreatDoor


namespace Go.Proofs.YtjmebijckcimoaaGreatDoor
open Go.RowKit Go.Ap Go.Shelf Go.Proofs

attribute [local go_sem] Oper.semAt_some bs_toList empty_toList bs_size bs_extract

theorem letters_eq (s : Str) : ((lettersN s : Int) == (s.length : Int)) = s.all letB := by
  rw [Bool.eq_iff_iff, beq_iff_eq, List.all_eq_true]
  unfold lettersN
  constructor
  · intro h
    exact List.countP_eq_length.1 (by omega)
  · intro h
    have := List.countP_eq_length.2 h
    omega
set_option maxHeartbeats 1000000 in
theorem nameR (s : Str) (w : World) (hs : s.length ≤ 4611686018427387903) :
    Calls Tryz.prog 101 #[.string (bs s)] w fun e W' => e = .returned (.bool (nameB s)) ∧ Below w.heap.size w W' := by
  have HE := Lib.hid (name_ref s)
  have HW := Lib.hid (isWordR s w hs)
  have HL := Lib.hid (fun w => lettersRs s w hs)
  have e1 := letters_eq s
  by_cases hl : s.length ≤ 16
  · have d1 : decide ((s.length : Int) ≤ 16) = true := by simp; omega
    have HD := Lib.hid (show decide (s.length ≤ 16) = true by simpa using hl)
    clear hl
    cases hb : isWordB s
    · rw [hb] at HE HW
      clear hb
      go_enter Tryz.func101, Tryz.ntmps101
      go_wp2_with (fail)
      refine HW.out.mono ?_
      rintro e w1 ⟨rfl, hb⟩
      go_wp2_with (fail)
      go_ret
      exact ⟨ret_b (by rw [HE.out]; simp), hb⟩
    · rw [hb] at HE HW
      clear hb
      go_enter Tryz.func101, Tryz.ntmps101
      go_wp2_with (fail)
      refine HW.out.mono ?_
      rintro e w1 ⟨rfl, hb⟩
      go_wp2_with (fail)
      refine (HL.out _).mono ?_
      rintro e w2 ⟨rfl, rfl⟩
      go_wp2_with (fail)
      go_ret
      exact ⟨ret_b (by rw [HE.out, HD.out]; simp), hb⟩
  · have d1 : decide ((s.length : Int) ≤ 16) = false := by simp; omega
    have HD := Lib.hid (show decide (s.length ≤ 16) = false by simpa using hl)
    clear hl
    go_enter Tryz.func101, Tryz.ntmps101
    go_wp2_with (fail)
    go_ret
    exact ⟨ret_b (by rw [HE.out, HD.out]; rfl), Below.refl _ _⟩
theorem namedR (s : Str) (w : World) (hs : s.length ≤ 4611686018427387903) :
    Calls Tryz.prog 138 #[.string (bs s)] w fun e W' => e = .returned (.bool (namedB s)) ∧ Below w.heap.size w W' := by
  have HN := Lib.hid (nameR s w hs)
  cases s with
  | nil =>
    go_enter Tryz.func138, Tryz.ntmps138
    go_wp2_with (fail)
    go_ret
    exact ⟨rfl, Below.refl _ _⟩
  | cons c t =>
    have HE := Lib.hid (show namedB (c :: t) = nameB (c :: t) by simp [namedB])
    generalize nameB (c :: t) = nb at *
    go_enter Tryz.func138, Tryz.ntmps138
    go_wp2_with (fail)
    refine HN.out.mono ?_
    rintro e w1 ⟨rfl, hb⟩
    go_wp2_with (fail)
    go_ret
    exact ⟨ret_b (by rw [HE.out]), hb⟩

theorem gap_none {s : Str} (h : ∀ m, 1 ≤ m → m < 65 → s ≠ gapS m) : gapB s = false := by
  cases hg : gapB s
  · rfl
  · obtain ⟨n, h1, h2, h3⟩ := gap_form hg
    exact absurd h3 (h n h1 (by omega))
set_option maxHeartbeats 1000000 in
theorem gappedR (s : Str) (w : World) : Calls Tryz.prog 135 #[.string (bs s)] w fun e W' => e = .returned (.bool (gapB s)) ∧ w = W' := by
  go_enter Tryz.func135, Tryz.ntmps135
  go_wp2_with (fail)
  go_loopw [3] (fun iv wr => ∃ n : Nat, 1 ≤ n ∧ n ≤ 65 ∧ iv = .int .i64 n ∧ w = wr ∧ ∀ m, 1 ≤ m → m < n → s ≠ gapS m) (fun iv _ => 65 - (intOf iv).toNat)
  case atStart => exact ⟨1, Nat.le_refl _, by omega, rfl, rfl, fun m h1 h2 => by omega⟩
  case round =>
    obtain ⟨n, h1, h65, rfl, rfl, hn⟩ := hrel
    have HN := Lib.hid hn
    clear hn
    by_cases hlt : n ≤ 64
    · have d1 : decide ((n : Int) ≤ 64) = true := by simp; omega
      have HI := Lib.hid (itoaP n hlt)
      have HC := Lib.hid (gap_cat n)
      have hdl := dig_len n
      have g1 : ¬ 9223372036854775807 < 1 + (dig2 n).length := by omega
      have g2 : ¬ 9223372036854775807 < 1 + (dig2 n).length + 1 := by omega
      by_cases he : s = gapS n
      · have HR := Lib.hid (gap_of h1 hlt)
        have eC : (s == (({ data := #[91] } : ByteArray) ++ bs (dig2 n) ++ { data := #[93] }).toList) = true := by rw [gap_cat, beq_iff_eq]; exact he
        have HE := Lib.hid he
        clear he
        go_wp2_with (fail)
        refine (HI.out _).mono ?_
        rintro e w1 ⟨rfl, rfl⟩
        go_wp2_with (fail)
        go_ret
        exact ⟨ret_b (by rw [HE.out]; exact HR.out.symm), rfl⟩
      · have eC : (s == (({ data := #[91] } : ByteArray) ++ bs (dig2 n) ++ { data := #[93] }).toList) = false := by rw [gap_cat, beq_eq_false_iff_ne]; exact he
        have HE := Lib.hid he
        clear he
        go_wp2_with (fail)
        refine (HI.out _).mono ?_
        rintro e w1 ⟨rfl, rfl⟩
        go_wp2_with (fail)
        exact ⟨⟨n + 1, by omega, by omega, by simp, trivial, fun m hm1 hm2 => by
          by_cases hmn : m = n
          · rw [hmn]; exact HE.out
          · exact HN.out m hm1 (by omega)⟩, by simp [intOf]; omega⟩
    · obtain rfl : n = 65 := by omega
      have HR := Lib.hid (gap_none HN.out)
      go_wp2_with (fail)
      go_ret
      exact ⟨ret_b HR.out.symm, rfl⟩
theorem hasR (t : Tok) (f : Int) (hf : f = 2 ∨ f = 8) (w : World) (h0 : 0 ≤ t.flags) (h1 : t.flags ≤ 31) :
    Calls Tryz.prog 134 #[tokV t, .int .i64 f] w fun e W' => e = .returned (.bool (decide (t.flags / f % 2 = 1))) ∧ Below w.heap.size w W' := by
  unfold tokV
  rcases hf with rfl | rfl
  all_goals
    go_enter Tryz.func134, Tryz.ntmps134
    go_wp2_with (fail)
    go_ret
    exact ⟨rfl, balloc _ _⟩
end Go.Proofs.YtjmebijckcimoaaGreatDoor
