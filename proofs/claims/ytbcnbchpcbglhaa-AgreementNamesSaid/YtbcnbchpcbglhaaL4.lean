/-
  The walk of AgreementNames.
-/
import Derived.Test.YtbcnbchpcbglhaaPNames
namespace Go.Proofs.Ytbcnbchpcbglhaa
open Go.RowKit Go.Ap Go.Shelf Go.Proofs

theorem max6 : ∀ w, (Builtin.max_ #[26, 26, 26, 26, 26, 26] 26 #[.int .i64 0, .int .i64 0, .int .i64 0, .int .i64 0, .int .i64 0, .int .i64 0]).run Try.prog w = .ok (.int .i64 0) w := fun _ => by kernel_rfl

set_option maxRecDepth 100000 in
set_option maxHeartbeats 4000000 in
theorem law4_ok (a b : Option Addr) (n c k d m : Nat) (S : List (List Int)) (ts : List Int) (z : Int) (w : World) (h : Rows2 w a n S) (ht : U8s w b k ts) (hz : 0 ≤ z ∧ z ≤ 255) (hF : fineB S = true) (h0 : k ≠ 0) (ok : OkS S m) :
    Calls Try.prog 4 #[.slice a n c, .slice b k d, .int .u8 z] w fun e w' => e = .returned (.bool true) ∧ Below w.heap.size w w' := by
  obtain ⟨i0, hi, hz0, hz1, hz2⟩ := info_parts info3
  obtain ⟨r0, ri, rz0, rz1, rz2⟩ := info_parts info23
  have H21 := fine21 a n c S w h
  rw [hF] at H21
  have H21 := Lib.hid H21
  have HL := Lib.hid h.len
  have HH := Lib.hid h
  have HT := Lib.hid ht
  have HTL := Lib.hid ht.len
  have hts := ht.small
  have OK := Lib.hid ok
  have hw := ok.wid
  have hn32 : n ≤ 32 := by rw [← h.len]; exact ok.le
  have hpos : 0 < n := by rw [← h.len]; exact ok.pos
  have e0 : ((k : Int) == 0) = false := by rw [beq_eq_false_iff_ne]; omega
  have hpk : 0 < k := by omega
  obtain ⟨hz3, hz4⟩ := hz
  clear h ht ok hF h0
  go_enter Try.func4, Try.ntmps4
  go_wp2_with (fail)
  refine (H21.out).mono ?_
  rintro e w' ⟨rfl, q, rfl⟩
  go_wp2_with (fail)
  go_loopw [7, 37] (fun v i wr => ∃ l : Nat, l ≤ n ∧ i = .int .i64 l ∧ OwnRR 3 23 wr w.heap.size v (tabF (othF S ts) m l) ∧ Below w.heap.size w wr) (fun _ i _ => n - (intOf i).toNat)
  case atStart => exact ⟨0, by omega, rfl, OwnRR.nil _ _ _ _, bdrewN _ _⟩
  case round =>
    obtain ⟨l, hl, rfl, ho, hb⟩ := hrel
    have HO := Lib.hid ho
    have HB := Lib.hid hb
    have hsz := hb.size
    clear ho hb
    by_cases hlt : l < n
    · obtain ⟨b1, o1, rfl, hc1⟩ := Rows2.all (HH.out.mono (Nat.le_refl _) HB.out) (by omega)
      obtain ⟨a1, n1, c1, hcell1, hI1⟩ := hc1 l hlt
      obtain rfl : m = n1 := by rw [← hI1.len]; exact (OK.out.row_len (by rw [HL.out]; exact hlt)).symm
      have HI1 := Lib.hid hI1
      clear hc1 hI1
      go_wp2_with (fail)
      obtain ⟨wo, rfl⟩ : ∃ wo, wo = wr := ⟨_, rfl⟩
      go_loopw [10, 43] (fun v i wi => ∃ j : Nat, j ≤ m ∧ i = .int .i64 j ∧ OwnI 3 wi wo.heap.size v (lineF (othF S ts) l j) ∧ Below wo.heap.size wo wi) (fun _ i _ => m - (intOf i).toNat)
      case atStart => exact ⟨0, by omega, rfl, OwnI.nil _ _ _, Below.refl _ _⟩
      case round =>
        obtain ⟨j, hj, rfl, hoi, hbi⟩ := hrel
        have HOI := Lib.hid hoi
        have HBI := Lib.hid hbi
        have hszi := hbi.size
        clear hoi hbi
        by_cases hjl : j < m
        · obtain ⟨b2, o2, rfl, hc2⟩ := Ints.at (HI1.out.mono (Nat.le_refl _) HBI.out) (by omega)
          have hcell2 := hc2 j hjl
          obtain ⟨b3, o3, rfl, hc3⟩ := U8s_at (U8s_mono HT.out (Nat.le_refl _) (HB.out.trans (HBI.out.mono hsz))) hpk
          obtain ⟨hcell3, ht0, ht1⟩ := hc3 (j % k) (Nat.mod_lt _ hpk)
          have hv := OK.out.val (i := l) (k := j) (by rw [HL.out]; exact hlt) hjl
          have hv1 := hv.1
          have hv2 := hv.2
          have hmod : j % k < k := Nat.mod_lt _ hpk
          have HFT := Lib.hid (show othF S ts l j = turnX (nth ts (j % k)) (nth (row S l) j) by rw [othF, HTL.out])
          have hln := lineF_len (f := othF S ts) (i := l) (k := j)
          generalize nth ts (j % k) = t at *
          generalize nth (row S l) j = x at *
          clear hc2 hc3 hv
          by_cases hx : 0 ≤ x
          · have hr := turnX_range (t := t) (x := x) ⟨hv1, hv2⟩
            have HTX := Lib.hid (turnX_pos (t := t) hx)
            have d1 : decide (0 ≤ x) = true := by simpa using hx
            rw [HTX.out] at hr
            have HI64 := Lib.hid (show I64 ((x + t) % 16) from ⟨by omega, by omega⟩)
            clear hr
            go_wp2_with (at_builtin; refine wpList_append_own _ rfl _ _ 23 rfl wo.heap.size 3 i0 (.int .i64 0) 1 8 Try.underlying23 hi hz0 hz1 hz2 rfl (by decide) _ _ _ rfl (HOI.out.1.alloc _) ⟨wr.heap.size, 0, none⟩ 1 1 [.int .i64 ((x + t) % 16)] rfl rfl (cell_one_new _ _ _) (by simp [Value.oneCell']) (by unfold maxLen; omega) (by omega) (by simp; omega) ?_; intro v1 w4 hown1 hgrow1 _; have HO2 := Lib.hid hown1; have HG := Lib.hid hgrow1; clear hown1 hgrow1)
            have hp := HOI.out.pushed HI64.out hszi HO2.out HG.out
            go_roundw
            case rel => exact ⟨j + 1, by omega, by go_num, by rw [lineF_succ, HFT.out, HTX.out]; exact hp.1, HBI.out.trans hp.2⟩
            case measure => simp [intOf]; omega
          · have HTX := Lib.hid (turnX_neg (t := t) hx)
            have d1 : decide (0 ≤ x) = false := by simpa using hx
            have HI64 := Lib.hid (show I64 x from ⟨by omega, by omega⟩)
            go_wp2_with (at_builtin; refine wpList_append_own _ rfl _ _ 23 rfl wo.heap.size 3 i0 (.int .i64 0) 1 8 Try.underlying23 hi hz0 hz1 hz2 rfl (by decide) _ _ _ rfl (HOI.out.1.alloc _) ⟨wr.heap.size, 0, none⟩ 1 1 [.int .i64 x] rfl rfl (cell_one_new _ _ _) (by simp [Value.oneCell']) (by unfold maxLen; omega) (by omega) (by simp; omega) ?_; intro v1 w4 hown1 hgrow1 _; have HO2 := Lib.hid hown1; have HG := Lib.hid hgrow1; clear hown1 hgrow1)
            have hp := HOI.out.pushed HI64.out hszi HO2.out HG.out
            go_roundw
            case rel => exact ⟨j + 1, by omega, by go_num, by rw [lineF_succ, HFT.out, HTX.out]; exact hp.1, HBI.out.trans hp.2⟩
            case measure => simp [intOf]; omega
        · obtain rfl : m = j := by omega
          obtain ⟨a5, c5, hveq, _⟩ := OwnI.ints HOI.out (by rw [lineF_len]; omega)
          rw [lineF_len] at hveq
          subst hveq
          obtain ⟨vs, hv, hnext⟩ := HO.out.ready (by decide) hsz HBI.out HOI.out
          have HV := Lib.hid hv
          have HN := Lib.hid hnext
          have hln := tabF_len (f := othF S ts) (n := m) (k := l)
          clear hv hnext
          go_wp2_with (at_builtin; refine wpList_append_own _ rfl _ _ 22 rfl w.heap.size 23 r0 (.slice none 0 0) 1 24 Try.underlying22 ri rz0 rz1 rz2 rfl (by decide) _ _ _ rfl (HV.out.alloc _) ⟨wr.heap.size, 0, none⟩ 1 1 [.slice a5 m c5] rfl rfl (cell_one_new _ _ _) (by simp [Value.oneCell']) (by unfold maxLen; omega) (by omega) (by simp; omega) ?_; intro v1 w4 hown1 hgrow1 _; have HO2 := Lib.hid hown1; have HG := Lib.hid hgrow1; clear hown1 hgrow1)
          have hp := HN.out _ _ _ HO2.out HG.out
          go_roundw
          case rel => exact ⟨l + 1, by omega, by go_num, by rw [tabF_succ]; exact hp.1, (HB.out.trans (HBI.out.mono hsz)).trans hp.2⟩
          case measure => simp [intOf]; omega
    · obtain rfl : n = l := by omega
      obtain ⟨ao, co, hveq, hro⟩ := HO.out.rows (by rw [tabF_len]; omega) (fun r hr => by obtain ⟨i, _, rfl⟩ := List.mem_map.1 hr; rw [lineF_len]; omega)
      rw [tabF_len] at hveq hro
      subst hveq
      have HRO := Lib.hid (show Rows2 wr ao n (oth S ts m) by rw [oth, HL.out]; exact hro)
      have HM := Lib.hid (show m = (row S 0).length from (OK.out.row_len OK.out.pos).symm)
      have HM2 := Lib.hid (show m = (row (oth S ts m) 0).length from ((oth_ok OK.out).row_len (by rw [oth_len]; exact OK.out.pos)).symm)
      have CH := Lib.hid (chkS_of OK.out)
      have HE1 := Lib.hid (show errR S = 0 by rw [errR, if_pos CH.out])
      have HE2 := Lib.hid (show errR (oth S ts m) = 0 by rw [errR, if_pos (chkS_of (oth_ok OK.out))])
      have T1 := fun W (hb : Below w.heap.size w W) => matrix23 a n c m S W (HH.out.mono (Nat.le_refl _) hb) HM.out
      have T2 := fun W (hb : Below wr.heap.size wr W) => matrix23 ao n co m (oth S ts m) W (HRO.out.mono (Nat.le_refl _) hb) HM2.out
      have T3 := fun W (hb : Below w.heap.size w W) => distances24 a n c m S W (HH.out.mono (Nat.le_refl _) hb) HM.out
      have T4 := fun W (hb : Below wr.heap.size wr W) => distances24 ao n co m (oth S ts m) W (HRO.out.mono (Nat.le_refl _) hb) HM2.out
      rw [HE2.out, oth_mat OK.out] at T2
      rw [HE2.out, oth_dst OK.out] at T4
      rw [HE1.out] at T1 T3
      have T1 := Lib.hid T1
      have T2 := Lib.hid T2
      have T3 := Lib.hid T3
      have T4 := Lib.hid T4
      have HSE := Lib.hid (show shrE S (chosenL n z) = 0 by rw [← HL.out]; exact chosen_shrE CH.out z)
      have hm6 := max6
      clear hro HO
      generalize tabR (agrF S m) S = X at *
      generalize tabR (rdsF S m) S = Y at *
      go_wp2_with (fail)
      refine (chosen22 n z wr (by omega) ⟨hz3, hz4⟩).mono ?_
      rintro e w1 ⟨a1, n1, c1, rfl, i1, b1⟩
      have I1 := Lib.hid i1
      have K1 := Lib.hid b1
      clear i1 b1
      go_wp2_with (fail)
      refine (T1.out _ (bstep HB.out K1.out)).mono ?_
      rintro e w2 ⟨a2, n2, c2, rfl, i2, b2⟩
      have I2 := Lib.hid i2
      have J2 := Lib.hid b2
      have K2 := Lib.hid (bstep K1.out b2)
      clear i2 b2
      go_wp2_with (fail)
      refine (T2.out _ K2.out).mono ?_
      rintro e w3 ⟨a3, n3, c3, rfl, i3, b3⟩
      have I3 := Lib.hid i3
      have J3 := Lib.hid b3
      have K3 := Lib.hid (bstep K2.out b3)
      clear i3 b3
      go_wp2_with (fail)
      refine (T3.out _ (bstep HB.out K3.out)).mono ?_
      rintro e w4 ⟨a4, n4, c4, rfl, i4, b4⟩
      have I4 := Lib.hid i4
      have J4 := Lib.hid b4
      have K4 := Lib.hid (bstep K3.out b4)
      clear i4 b4
      go_wp2_with (fail)
      refine (T4.out _ K4.out).mono ?_
      rintro e w5 ⟨a5, n5, c5, rfl, i5, b5⟩
      have I5 := Lib.hid i5
      have J5 := Lib.hid b5
      have K5 := Lib.hid (bstep K4.out b5)
      clear i5 b5
      go_wp2_with (fail)
      have h1 := shared17 a a1 n c n1 c1 S (chosenL n z) w5 (HH.out.mono (Nat.le_refl _) (bstep HB.out K5.out)) (I1.out.mono (Nat.le_refl _) (bstep J2.out (bstep J3.out (bstep J4.out J5.out))))
      rw [HSE.out] at h1
      refine h1.mono ?_
      clear h1
      rintro e w6 ⟨a6, n6, c6, rfl, i6, b6⟩
      have I6 := Lib.hid i6
      have J6 := Lib.hid b6
      have K6 := Lib.hid (bstep K5.out b6)
      clear i6 b6
      go_wp2_with (fail)
      have h1 := shared17 ao a1 n co n1 c1 (oth S ts m) (chosenL n z) w6 (HRO.out.mono (Nat.le_refl _) K6.out) (I1.out.mono (Nat.le_refl _) (bstep J2.out (bstep J3.out (bstep J4.out (bstep J5.out J6.out)))))
      rw [oth_shr OK.out HSE.out, oth_shrE OK.out, HSE.out] at h1
      refine h1.mono ?_
      clear h1
      rintro e w7 ⟨a7, n7, c7, rfl, i7, b7⟩
      have I7 := Lib.hid i7
      have J7 := Lib.hid b7
      have K7 := Lib.hid (bstep K6.out b7)
      clear i7 b7
      go_wp2_with (fail)
      refine (same19 _ _ _ _ _ _ _ _ _ (I2.out.mono (Nat.le_refl _) (bstep J3.out (bstep J4.out (bstep J5.out (bstep J6.out J7.out))))) (I3.out.mono (Nat.le_refl _) (bstep J4.out (bstep J5.out (bstep J6.out J7.out))))).mono ?_
      rintro e w' ⟨rfl, q8, rfl⟩
      rw [sameB_self]
      go_wp2_with (fail)
      refine (same19 _ _ _ _ _ _ _ _ _ (I4.out.mono (Nat.le_refl _) (bstep J5.out (bstep J6.out (bstep J7.out (bdrewN _ q8))))) (I5.out.mono (Nat.le_refl _) (bstep J6.out (bstep J7.out (bdrewN _ q8))))).mono ?_
      rintro e w' ⟨rfl, q9, rfl⟩
      rw [sameB_self, drewN2]
      go_wp2_with (fail)
      refine (equal20 _ _ _ _ _ _ _ _ _ (I6.out.mono (Nat.le_refl _) (bstep J7.out (bdrewN _ (q8 + q9)))) (I7.out.mono (Nat.le_refl _) (bdrewN _ (q8 + q9)))).mono ?_
      rintro e w' ⟨rfl, q10, rfl⟩
      rw [eqL_self, drewN2]
      go_wp2_with (fail)
      refine (awake12 _).mono ?_
      rintro e w9 ⟨rfl, k9⟩
      go_wp2_with (fail)
      go_ret
      exact ⟨rfl, bstep HB.out (bstep K7.out (bstep (bdrewN _ _) k9))⟩

theorem law4 (a : Option Addr) (n c : Nat) (S : List (List Int)) (b : Option Addr) (k d : Nat) (ts : List Int) (z : Int) (w : World) (h : Rows2 w a n S) (ht : U8s w b k ts) (hz : 0 ≤ z ∧ z ≤ 255) :
    Calls Try.prog 4 #[.slice a n c, .slice b k d, .int .u8 z] w fun e w' => e = .returned (.bool true) ∧ Below w.heap.size w w' := by
  have H21 := fine21 a n c S w h
  have hs := ht.small
  cases hF : fineB S
  · rw [hF] at H21
    have H21 := Lib.hid H21
    clear hF h ht
    go_enter Try.func4, Try.ntmps4
    go_wp2_with (fail)
    refine (H21.out).mono ?_
    rintro e w' ⟨rfl, q, rfl⟩
    go_wp2_with (fail)
    refine (awake12 _).mono ?_
    rintro e w9 ⟨rfl, k9⟩
    go_wp2_with (fail)
    go_ret
    exact ⟨rfl, bstep (bdrewN _ _) k9⟩
  · by_cases h0 : k = 0
    · subst h0
      rw [hF] at H21
      have H21 := Lib.hid H21
      clear hF h ht
      go_enter Try.func4, Try.ntmps4
      go_wp2_with (fail)
      refine (H21.out).mono ?_
      rintro e w' ⟨rfl, q, rfl⟩
      go_wp2_with (fail)
      refine (awake12 _).mono ?_
      rintro e w9 ⟨rfl, k9⟩
      go_wp2_with (fail)
      go_ret
      exact ⟨rfl, bstep (bdrewN _ _) k9⟩
    · exact law4_ok a b n c k d _ S ts z w h ht hz hF h0 (chkS_ok (fineB_ok hF))

end Go.Proofs.Ytbcnbchpcbglhaa
