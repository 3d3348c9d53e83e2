/-
  The walk of AgreementSymmetric.
-/
import Derived.Test.YtbcnbchpcbglhaaTab
import Derived.Test.YtbcnbchpcbglhaaLex
namespace Go.Proofs.Ytbcnbchpcbglhaa
open Go.RowKit Go.Ap Go.Shelf Go.Proofs

/-- how many of the first k states are known -/
def knC (r : List Int) (k : Nat) : Nat := ((List.range k).filter fun j => decide (0 ≤ nth r j)).length
section
variable {r : List Int} {k : Nat}
theorem knC_yes (h : 0 ≤ nth r k) : knC r (k + 1) = knC r k + 1 := by simp [knC, List.range_succ, h]
theorem knC_no (h : ¬ 0 ≤ nth r k) : knC r (k + 1) = knC r k := by simp [knC, List.range_succ, h]
theorem knC_le (r : List Int) (k : Nat) : knC r k ≤ k := by unfold knC; exact Nat.le_trans (List.length_filter_le _ _) (by simp)
end
theorem cmpd_knC (a b : List Int) : ∀ k, cmpd a b k ≤ knC a k
  | 0 => Nat.le_refl _
  | k + 1 => by
    have ih := cmpd_knC a b k
    unfold cmpd at *
    cases h : knP (nth a k, nth b k)
    · rw [knL_no h]
      by_cases h1 : 0 ≤ nth a k
      · rw [knC_yes h1]; omega
      · rw [knC_no h1]; exact ih
    · have h1 : 0 ≤ nth a k := by simp [knP] at h; exact h.1
      rw [knL_yes h, knC_yes h1, List.length_append, List.length_singleton]
      omega
theorem self_counts (a : List Int) : ∀ k, cmpd a a k = knC a k ∧ agr a a k = knC a k
  | 0 => ⟨rfl, rfl⟩
  | k + 1 => by
    obtain ⟨h1, h2⟩ := self_counts a k
    unfold cmpd agr at *
    by_cases h : 0 ≤ nth a k
    · rw [knL_yes (knP_yes h h), knC_yes h, List.filter_append, List.length_append, List.length_append]
      exact ⟨by simp; omega, by simp [eqP]; omega⟩
    · rw [knL_no (knP_no1 h), knC_no h]
      exact ⟨h1, h2⟩
theorem agrF_symm (S : List (List Int)) (m i j : Nat) : agrF S m i j = agrF S m j i := by unfold agrF; rw [agr_symm]
theorem cmpF_symm (S : List (List Int)) (m i j : Nat) : cmpF S m i j = cmpF S m j i := by unfold cmpF; rw [cmpd_symm]
theorem round_lo {d q x : Int} (hq : 0 < q) (hd : d = (2000 * (q - x) + q) / (2 * q)) : 2 * d * q ≤ 2000 * (q - x) + q ∧ 2000 * (q - x) - q ≤ 2 * d * q := by
  have h1 := Int.ediv_mul_le (2000 * (q - x) + q) (show 2 * q ≠ 0 by omega)
  have h2 := Int.lt_ediv_add_one_mul_self (2000 * (q - x) + q) (show 0 < 2 * q by omega)
  rw [← hd] at h1 h2
  have e1 : d * (2 * q) = 2 * d * q := by rw [Int.mul_comm 2 d, Int.mul_assoc]
  have e2 : (d + 1) * (2 * q) = 2 * d * q + 2 * q := by rw [Int.add_mul, e1, Int.one_mul]
  rw [e1] at h1
  rw [e2] at h2
  exact ⟨h1, by omega⟩

theorem rdsF_ne {S : List (List Int)} {m i k : Nat} (h : i ≠ k) (h0 : 0 < cmpF S m i k) : rdsF S m i k = (2000 * (cmpF S m i k - agrF S m i k) + cmpF S m i k) / (2 * cmpF S m i k) := by
  unfold cmpF at h0
  unfold rdsF distR dist cmpF agrF
  rw [if_neg h, distN, if_neg (by omega)]
theorem len34 (Bx : Nat) (a : Option Addr) (n c m : Nat) (w : World) (hb : w.cell? ⟨Bx, 0, none⟩ = some (.int .i64 m)) (h : n = m) (hm : m ≤ 1000) :
    Calls Try.prog 34 #[.slice a n c, .pointer (some ⟨Bx, 0, none⟩)] w fun e w' => e = .returned (.bool false) ∧ ∃ q, w' = w.drewN q := by
  subst h
  go_enter Try.func34, Try.ntmps34
  go_wp2_with (fail)
  go_ret
  exact ⟨ret_b (by simp), 0, rfl⟩
theorem max3 : ∀ w, (Builtin.max_ #[26, 26, 26] 26 #[.int .i64 0, .int .i64 0, .int .i64 0]).run Try.prog w = .ok (.int .i64 0) w := fun _ => by kernel_rfl

set_option maxRecDepth 200000 in
set_option maxHeartbeats 4000000 in
theorem law7_ok (a : Option Addr) (n c m : Nat) (S : List (List Int)) (w : World) (h : Rows2 w a n S) (hF : fineB S = true) (ok : OkS S m) :
    Calls Try.prog 7 #[.slice a n c] w fun e w' => e = .returned (.bool true) ∧ Below w.heap.size w w' := by
  have H21 := fine21b a n c S w h
  rw [hF] at H21
  have H21 := Lib.hid H21
  have HL := Lib.hid h.len
  have HH := Lib.hid h
  have OK := Lib.hid ok
  have hw := ok.wid
  have hn32 : n ≤ 32 := by rw [← h.len]; exact ok.le
  have hpos : 0 < n := by rw [← h.len]; exact ok.pos
  have HM := Lib.hid (show m = (row S 0).length from (ok.row_len ok.pos).symm)
  have HER := Lib.hid (show errR S = 0 by rw [errR, if_pos (chkS_of ok)])
  have T1 := fun W (hb : Below w.heap.size w W) => matrix23 a n c m S W (HH.out.mono (Nat.le_refl _) hb) HM.out
  have T2 := fun W (hb : Below w.heap.size w W) => compared29 a n c m S W (HH.out.mono (Nat.le_refl _) hb) HM.out
  have T3 := fun W (hb : Below w.heap.size w W) => distances24 a n c m S W (HH.out.mono (Nat.le_refl _) hb) HM.out
  rw [HER.out, tabR_ok ok, HL.out] at T1 T2 T3
  have T1 := Lib.hid T1
  have T2 := Lib.hid T2
  have T3 := Lib.hid T3
  have hm3 := max3
  have e3 : ((n : Int) != n) = false := by simp
  clear h ok hF
  go_enter Try.func7, Try.ntmps7
  go_wp2_with (fail)
  refine (H21.out).mono ?_
  rintro e w0 ⟨rfl, hb0⟩
  have B0 := Lib.hid hb0
  clear hb0
  go_wp2_with (fail)
  obtain ⟨W0, hW0⟩ : ∃ W0, w0.alloc (.cells #[.int .i64 n] 3) = W0 := ⟨_, rfl⟩
  have hcn : W0.cell? ⟨w0.heap.size, 0, none⟩ = some (.int .i64 n) := by rw [← hW0]; exact cell_fresh rfl rfl
  have B1 := Lib.hid (show Below w.heap.size w W0 by rw [← hW0]; exact bstep B0.out (balloc _ _))
  rw [hW0]
  clear hW0
  refine (T1.out _ B1.out).mono ?_
  rintro e w1 ⟨a1, n1, c1, rfl, i1, b1⟩
  obtain rfl : n1 = n := by rw [← i1.len, tabF_len]
  have I1 := Lib.hid i1
  have hcn1 := cell_keep b1 hcn
  have B2 := Lib.hid (bstep B1.out b1)
  clear i1 b1 hcn
  go_wp2_with (fail)
  refine (T2.out _ B2.out).mono ?_
  rintro e w2 ⟨a2, n2, c2, rfl, i2, b2⟩
  obtain rfl : n2 = n1 := by rw [← i2.len, tabF_len]
  have I2 := Lib.hid i2
  have J1 := Lib.hid (I1.out.mono (Nat.le_refl _) b2)
  have hcn2 := cell_keep b2 hcn1
  have B3 := Lib.hid (bstep B2.out b2)
  clear i2 b2 hcn1 I1
  go_wp2_with (fail)
  refine (T3.out _ B3.out).mono ?_
  rintro e w3 ⟨a3, n3, c3, rfl, i3, b3⟩
  obtain rfl : n3 = n2 := by rw [← i3.len, tabF_len]
  have I3 := Lib.hid i3
  have K1 := Lib.hid (J1.out.mono (Nat.le_refl _) b3)
  have K2 := Lib.hid (I2.out.mono (Nat.le_refl _) b3)
  have hcn3 := cell_keep b3 hcn2
  have B4 := Lib.hid (bstep B3.out b3)
  clear i3 b3 hcn2 J1 I2
  go_wp2_with (fail)
  obtain ⟨W4, hW4⟩ : ∃ W4, w3.alloc (.cells #[.slice a1 n3 c1, .slice a2 n3 c2, .slice a3 n3 c3] 22) = W4 := ⟨_, rfl⟩
  have hbb : Below w3.heap.size w3 W4 := by rw [← hW4]; exact balloc _ _
  have hcn := cell_keep hbb hcn3
  have L1 := Lib.hid (K1.out.mono (Nat.le_refl _) hbb)
  have L2 := Lib.hid (K2.out.mono (Nat.le_refl _) hbb)
  have L3 := Lib.hid (I3.out.mono (Nat.le_refl _) hbb)
  have hlit : ∀ k, k < 3 → ∃ a' c' T, W4.cell? ⟨w3.heap.size, k, none⟩ = some (.slice a' n3 c') ∧ Rows2 W4 a' n3 T ∧ ∀ l ∈ T, l.length = n3 := by
    intro k hk
    have hrow : ∀ f, ∀ l ∈ tabF f n3 n3, l.length = n3 := fun f l hl => by obtain ⟨i, _, rfl⟩ := List.mem_map.1 hl; exact lineF_len
    rcases (show k = 0 ∨ k = 1 ∨ k = 2 by omega) with rfl | rfl | rfl
    · exact ⟨_, _, _, by rw [← hW4]; exact cell_fresh rfl rfl, L1.out, hrow _⟩
    · exact ⟨_, _, _, by rw [← hW4]; exact cell_fresh rfl rfl, L2.out, hrow _⟩
    · exact ⟨_, _, _, by rw [← hW4]; exact cell_fresh rfl rfl, L3.out, hrow _⟩
  have HLIT := Lib.hid hlit
  have B5 := Lib.hid (bstep B4.out hbb)
  rw [hW4]
  clear hW4 hbb hcn3 K1 K2 I3 hlit
  go_loopw [67] (fun kv wr => ∃ (k q : Nat), k ≤ 3 ∧ kv = .int .i64 k ∧ wr = W4.drewN q) (fun kv _ => 3 - (intOf kv).toNat)
  case atStart => exact ⟨0, 0, by omega, rfl, rfl⟩
  case round =>
    obtain ⟨k, q, hk, rfl, rfl⟩ := hrel
    by_cases hlt : k < 3
    · obtain ⟨a', c', T, hck, hT, hTl⟩ := HLIT.out k hlt
      have HC25 := contf25 (fun _ => false) a' n3 c' T 34 #[.pointer (some ⟨w0.heap.size, 0, none⟩)] (W4.drewN q) hT.drewN (enters_of Try.func34 (by kernel_rfl) rfl) (by
        rintro q' xs v hx ⟨a'', n'', c'', rfl, hI⟩
        exact len34 _ a'' n'' c'' n3 _ hcn (by rw [← hI.len]; exact hTl xs hx) (by omega))
      rw [show (T.any fun _ => false) = false by simp] at HC25
      have HC25 := Lib.hid HC25
      clear hT hTl
      go_wp2_with (fail)
      refine (HC25.out).mono ?_
      rintro e w5 ⟨rfl, q5, rfl⟩
      rw [drewN2]
      go_wp2_with (fail)
      go_roundw
      case rel => exact ⟨k + 1, _, by omega, by go_num, rfl⟩
      case measure => simp [intOf]; omega
    · obtain rfl : k = 3 := by omega
      rw [show ((3 : Nat) : Int) = 3 from rfl]
      obtain ⟨bm, om, rfl, hM⟩ := tab_at L1.out hpos
      obtain ⟨bc, oc, rfl, hC⟩ := tab_at L2.out hpos
      obtain ⟨bd, od, rfl, hD⟩ := tab_at L3.out hpos
      have HTM := Lib.hid hM
      have HTC := Lib.hid hC
      have HTD := Lib.hid hD
      clear hM hC hD L1 L2 L3 HLIT
      go_wp2_with (fail)
      go_loopw [82] (fun kv wr => ∃ (i q : Nat), i ≤ n3 ∧ kv = .int .i64 i ∧ wr = W4.drewN q) (fun kv _ => n3 - (intOf kv).toNat)
      case atStart => exact ⟨0, _, by omega, rfl, rfl⟩
      case round =>
        as_aux_lemma =>
        obtain ⟨i, q1, hi, rfl, rfl⟩ := hrel
        by_cases hil : i < n3
        · obtain ⟨b1, o1, rfl, hc1⟩ := Rows2.all (HH.out.mono (Nat.le_refl _) B5.out) hpos
          obtain ⟨ar, nr, cr, hcr, hIr⟩ := hc1 i hil
          obtain rfl : m = nr := by rw [← hIr.len]; exact (OK.out.row_len (by rw [HL.out]; exact hil)).symm
          have HIR := Lib.hid hIr
          clear hc1 hIr
          go_wp2_with (fail)
          go_loop [13, 90] (fun cv kv => ∃ j : Nat, j ≤ m ∧ kv = .int .i64 j ∧ cv = .int .i64 (knC (row S i) j : Nat)) (fun _ kv => m - (intOf kv).toNat)
          case atStart => exact ⟨0, by omega, rfl, rfl⟩
          case round =>
            as_aux_lemma =>
            obtain ⟨j, hj, rfl, rfl⟩ := hrel
            have hkl := knC_le (row S i) j
            by_cases hjl : j < m
            · obtain ⟨br, or, rfl, hcr2⟩ := Ints.at HIR.out (by omega)
              have hcx := hcr2 j hjl
              have HY := Lib.hid (knC_yes (r := row S i) (k := j))
              have HN := Lib.hid (knC_no (r := row S i) (k := j))
              generalize nth (row S i) j = x at *
              clear hcr2
              by_cases hx : 0 ≤ x
              · have d1 : decide (0 ≤ x) = true := by simpa using hx
                have HS := Lib.hid (HY.out hx)
                go_wp2_with (fail)
                go_round
                case rel => exact ⟨j + 1, by omega, by go_num, by rw [HS.out]; go_num⟩
                case measure => simp [intOf]; omega
              · have d1 : decide (0 ≤ x) = false := by simpa using hx
                have HS := Lib.hid (HN.out hx)
                go_wp2_with (fail)
                go_round
                case rel => exact ⟨j + 1, by omega, by go_num, by rw [HS.out]⟩
                case measure => simp [intOf]; omega
            · obtain rfl : m = j := by omega
              obtain ⟨s1, s2⟩ := self_counts (row S i) m
              obtain ⟨bmi, omi, cmi, gm1, gm2⟩ := HTM.out i hil
              obtain ⟨bci, oci, cci, gc1, gc2⟩ := HTC.out i hil
              obtain ⟨bdi, odi, cdi, gd1, gd2⟩ := HTD.out i hil
              have gm3 := gm2 i hil
              have gc3 := gc2 i hil
              have gd3 := gd2 i hil
              rw [show agrF S m i i = (knC (row S i) m : Nat) by rw [agrF, s2]] at gm3
              rw [show cmpF S m i i = (knC (row S i) m : Nat) by rw [cmpF, s1]] at gc3
              rw [show rdsF S m i i = 0 by simp [rdsF, distR]] at gd3
              have GM2 := Lib.hid gm2
              have GC2 := Lib.hid gc2
              have GD2 := Lib.hid gd2
              have HKN := Lib.hid (fun k => cmpd_knC (row S i) (row S k) m)
              have HDG := Lib.hid (show agrF S m i i = (knC (row S i) m : Nat) ∧ cmpF S m i i = (knC (row S i) m : Nat) ∧ rdsF S m i i = 0 from ⟨by rw [agrF, s2], by rw [cmpF, s1], by simp [rdsF, distR]⟩)
              have e4 : (((knC (row S i) m : Nat) : Int) != (knC (row S i) m : Nat)) = false := by simp
              clear s1 s2 gm2 gc2 gd2
              generalize knC (row S i) m = kn at *
              go_wp2_with (fail)
              go_loopw [130] (fun kv wr => ∃ (k q : Nat), k ≤ n3 ∧ kv = .int .i64 k ∧ wr = W4.drewN q) (fun kv _ => n3 - (intOf kv).toNat)
              case atStart => exact ⟨0, _, by omega, rfl, rfl⟩
              case round =>
                as_aux_lemma =>
                obtain ⟨k, q2, hk, rfl, rfl⟩ := hrel
                by_cases hkl' : k < n3
                · obtain ⟨bmk, omk, cmk, hm1, hm2⟩ := HTM.out k hkl'
                  obtain ⟨bck, ock, cck, hc1, hc2⟩ := HTC.out k hkl'
                  obtain ⟨bdk, odk, cdk, hd1, hd2⟩ := HTD.out k hkl'
                  have hm3 := hm2 i hil
                  have hc3 := hc2 i hil
                  have hd3 := hd2 i hil
                  have fm3 := GM2.out k hkl'
                  have fc3 := GC2.out k hkl'
                  have fd3 := GD2.out k hkl'
                  rw [agrF_symm] at hm3
                  rw [cmpF_symm] at hc3
                  rw [rdsF_symm] at hd3
                  have hb1 : agrF S m i k ≤ cmpF S m i k := by unfold agrF cmpF; have := agr_le (row S i) (row S k) m; omega
                  have hb2 : cmpF S m i k ≤ kn := by unfold cmpF; have := HKN.out k; omega
                  have hb3 : 0 ≤ agrF S m i k := by unfold agrF; omega
                  have hzb := rdsF_bound S m i k
                  have hb4 := hzb.1
                  have hb5 := hzb.2
                  have HRD := Lib.hid (show k ≠ i → 0 < cmpF S m i k → 2 * rdsF S m i k * cmpF S m i k ≤ 2000 * (cmpF S m i k - agrF S m i k) + cmpF S m i k ∧ 2000 * (cmpF S m i k - agrF S m i k) - cmpF S m i k ≤ 2 * rdsF S m i k * cmpF S m i k from fun hki hq => round_lo hq (rdsF_ne (Ne.symm hki) hq))
                  generalize agrF S m i k = x at *
                  generalize cmpF S m i k = y at *
                  generalize rdsF S m i k = z at *
                  have f1 : (x != x) = false := by simp
                  have f2 : (y != y) = false := by simp
                  have f3 : (z != z) = false := by simp
                  have f4 : decide (x < 0) = false := by simp; omega
                  have f5 : decide (y < x) = false := by simp; omega
                  have f6 : decide ((kn : Int) < y) = false := by simp; omega
                  have f7 : decide (z < 0) = false := by simp; omega
                  have f8 : decide (1000 < z) = false := by simp; omega
                  clear hm2 hc2 hd2 hzb
                  go_wp2_with (fail)
                  refine wp_region_quiet_lit (by kernel_rfl) (lexB_of (by kernel_rfl) (by kernel_rfl)) ?_
                  repeat (go_big_quiet_step (fail))
                  refine wpQuiet_nil ?_
                  intro _ hw'
                  obtain ⟨nq, hw''⟩ := hw'
                  subst hw''
                  go_wp2_with (fail)
                  clear f1 f2 f3 f4 f5 f6 f7 f8
                  by_cases hki : k = i
                  · have f9 : ((i : Int) != k) = false := by rw [hki]; simp
                    clear hki
                    refine wp_region_quiet_lit (by kernel_rfl) (lexB_of (by kernel_rfl) (by kernel_rfl)) ?_
                    repeat (go_big_quiet_step (fail))
                    refine wpQuiet_nil ?_
                    intro _ hw'
                    obtain ⟨nq, hw''⟩ := hw'
                    subst hw''
                    go_wp2_with (fail)
                    go_roundw
                    case rel => exact ⟨k + 1, _, by omega, by go_num, rfl⟩
                    case measure => simp [intOf]; omega
                  · have f9 : ((i : Int) != k) = true := by rw [bne_iff_ne]; omega
                    by_cases hy : 0 < y
                    · obtain ⟨g1, g2⟩ := HRD.out hki hy
                      have f10 : decide (0 < y) = true := by simpa using hy
                      have w0 : 0 ≤ 2 * z * y := Int.mul_nonneg (by omega) (by omega)
                      obtain ⟨P, hP⟩ : ∃ P, 2 * z * y = P := ⟨_, rfl⟩
                      rw [hP] at g1 g2 w0
                      have f11 : decide (2000 * (y - x) + y < P) = false := by rw [decide_eq_false_iff_not]; omega
                      have f12 : decide (P < 2000 * (y - x) - y) = false := by rw [decide_eq_false_iff_not]; omega
                      obtain ⟨w1, w2, w3, w4, w5, w6⟩ : IntKind.i64.wrap (2 * z) = 2 * z ∧ IntKind.i64.wrap (2 * z * y) = P ∧ IntKind.i64.wrap (y - x) = y - x ∧ IntKind.i64.wrap (2000 * (y - x)) = 2000 * (y - x) ∧ IntKind.i64.wrap (2000 * (y - x) + y) = 2000 * (y - x) + y ∧ IntKind.i64.wrap (2000 * (y - x) - y) = 2000 * (y - x) - y :=
                        ⟨IntWalk.i64_in _ (by omega), by rw [hP]; exact IntWalk.i64_in _ (by omega), IntWalk.i64_in _ (by omega), IntWalk.i64_in _ (by omega), IntWalk.i64_in _ (by omega), IntWalk.i64_in _ (by omega)⟩
                      clear g1 g2 w0 hP hki
                      refine wp_region_quiet_lit (by kernel_rfl) (lexB_of (by kernel_rfl) (by kernel_rfl)) ?_
                      repeat (go_big_quiet_step (fail))
                      refine wpQuiet_nil ?_
                      intro _ hw'
                      obtain ⟨nq, hw''⟩ := hw'
                      subst hw''
                      clear w1 w2 w3 w4 w5 w6
                      go_wp2_with (fail)
                      go_roundw
                      case rel => exact ⟨k + 1, _, by omega, by go_num, rfl⟩
                      case measure => simp [intOf]; omega
                    · have f10 : decide (0 < y) = false := by simpa using hy
                      clear hki
                      refine wp_region_quiet_lit (by kernel_rfl) (lexB_of (by kernel_rfl) (by kernel_rfl)) ?_
                      repeat (go_big_quiet_step (fail))
                      refine wpQuiet_nil ?_
                      intro _ hw'
                      obtain ⟨nq, hw''⟩ := hw'
                      subst hw''
                      go_wp2_with (fail)
                      go_roundw
                      case rel => exact ⟨k + 1, _, by omega, by go_num, rfl⟩
                      case measure => simp [intOf]; omega
                · go_wp2_with (fail)
                  go_roundw
                  case rel => exact ⟨i + 1, _, by omega, by go_num, rfl⟩
                  case measure => simp [intOf]; omega
        · go_wp2_with (fail)
          refine (awake12 _).mono ?_
          rintro e w9 ⟨rfl, k9⟩
          go_wp2_with (fail)
          go_ret
          exact ⟨rfl, bstep B5.out (bstep (bdrewN _ _) k9)⟩

end Go.Proofs.Ytbcnbchpcbglhaa
