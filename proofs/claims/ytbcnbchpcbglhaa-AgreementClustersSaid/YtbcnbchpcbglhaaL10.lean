/-
  The walk of AgreementClusters.
-/
import Derived.Test.YtbcnbchpcbglhaaPClu
import Derived.Test.YtbcnbchpcbglhaaTab
namespace Go.Proofs.Ytbcnbchpcbglhaa
open Go.RowKit Go.Ap Go.Shelf Go.Proofs

theorem bit255 (i : Nat) : bitB 255 i = true := by
  have h8 : i % 8 < 8 := Nat.mod_lt _ (by omega)
  rw [bitB_def]
  generalize i % 8 = j at *
  rcases (show j = 0 ∨ j = 1 ∨ j = 2 ∨ j = 3 ∨ j = 4 ∨ j = 5 ∨ j = 6 ∨ j = 7 by omega) with rfl | rfl | rfl | rfl | rfl | rfl | rfl | rfl <;> decide +kernel
theorem chosen255 (n : Nat) : chosenL n 255 = memb (fun _ => true) n := by
  unfold chosenL
  rw [memb_congr (p := bitB 255) (q := fun _ => true) (fun j _ => bit255 j)]
  split <;> rfl
theorem max4 : ∀ w, (Builtin.max_ #[26, 26, 26, 26] 26 #[.int .i64 0, .int .i64 0, .int .i64 0, .int .i64 0]).run Try.prog w = .ok (.int .i64 0) w := fun _ => by kernel_rfl

set_option maxRecDepth 200000 in
set_option maxHeartbeats 4000000 in
theorem law10_ok (a : Option Addr) (n c m : Nat) (S : List (List Int)) (z1 z2 : Int) (A B : Nat) (w : World) (h : Rows2 w a n S) (hz : 0 ≤ z1 ∧ z1 ≤ 65535) (hz' : 0 ≤ z2 ∧ z2 ≤ 65535) (hF : fineB S = true) (ok : OkS S m)
    (hAB : (z1 % 1001 ≤ z2 % 1001 ∧ z1 % 1001 = A ∧ z2 % 1001 = B) ∨ (¬ z1 % 1001 ≤ z2 % 1001 ∧ z2 % 1001 = A ∧ z1 % 1001 = B)) :
    Calls Try.prog 10 #[.slice a n c, .int .u16 z1, .int .u16 z2] w fun e w' => e = .returned (.bool true) ∧ Below w.heap.size w w' := by
  have hA0 : A ≤ B ∧ B ≤ 1000 := by omega
  have H21 := fine21b a n c S w h
  rw [hF] at H21
  have H21 := Lib.hid H21
  have HL := Lib.hid h.len
  have HH := Lib.hid h
  have CH := Lib.hid (chkS_of ok)
  have hn32 : n ≤ 32 := by rw [← h.len]; exact ok.le
  have hpos : 0 < n := by rw [← h.len]; exact ok.pos
  have HM := Lib.hid (show m = (row S 0).length from (ok.row_len ok.pos).symm)
  have HER := Lib.hid (show errR S = 0 by rw [errR, if_pos CH.out])
  have hCE : ∀ k : Nat, k ≤ 1000 → cluE S (k : Int) = 0 := fun k hk => by rw [cluE, if_neg (by simp [CH.out]), if_neg (by omega)]
  have hCR : ∀ k : Nat, k ≤ 1000 → cluR S m (k : Int) = cluU (connB (adjD S m k) n) n n := fun k hk => by rw [cluR, if_pos (hCE k hk), HL.out]
  have T1 := fun W (hb : Below w.heap.size w W) => clusters15 a n c m (A : Int) S W (HH.out.mono (Nat.le_refl _) hb) HM.out
  have T2 := fun W (hb : Below w.heap.size w W) => clusters15 a n c m (B : Int) S W (HH.out.mono (Nat.le_refl _) hb) HM.out
  have T3 := fun W (hb : Below w.heap.size w W) => clusters15 a n c m ((1000 : Nat) : Int) S W (HH.out.mono (Nat.le_refl _) hb) HM.out
  have T4 := fun W (hb : Below w.heap.size w W) => distances24 a n c m S W (HH.out.mono (Nat.le_refl _) hb) HM.out
  rw [hCE A (by omega), hCR A (by omega)] at T1
  rw [hCE B (by omega), hCR B (by omega)] at T2
  rw [hCE 1000 (by omega), hCR 1000 (by omega)] at T3
  rw [HER.out, tabR_ok ok, HL.out] at T4
  have SA := Lib.hid (adjD_symm S m (A : Int))
  have SB := Lib.hid (adjD_symm S m (B : Int))
  have SC := Lib.hid (adjD_symm S m ((1000 : Nat) : Int))
  have HONE := Lib.hid (clu_one (adj := adjD S m ((1000 : Nat) : Int)) hpos (fun i j _ _ => by have := (rdsF_bound S m i j).2; simp [adjD]; omega))
  have HAD := Lib.hid (show ∀ i k, rdsF S m i k ≤ (A : Int) → adjD S m A i k = true from fun i k h => by simp [adjD, h])
  have HMO := Lib.hid (show ∀ i k, adjD S m A i k = true → adjD S m B i k = true from fun i k h => by simp [adjD] at h ⊢; omega)
  generalize adjD S m (A : Int) = aA at *
  generalize adjD S m (B : Int) = aB at *
  generalize adjD S m ((1000 : Nat) : Int) = aC at *
  have HPL := Lib.hid (fun i k (hi : i < n) (hk : k < n) => place_iff (n := n) SA.out hi hk)
  have HPM := Lib.hid (fun i k (hi : i < n) (hk : k < n) => place_iff (n := n) SB.out hi hk)
  have T1 := Lib.hid T1
  have T2 := Lib.hid T2
  have T3 := Lib.hid T3
  have T4 := Lib.hid T4
  have hm4 := max4
  clear h ok hF hCE hCR
  have hz1 := hz.1
  have hz2 := hz.2
  have hz3 := hz'.1
  have hz4 := hz'.2
  clear hz hz'
  have hlt1 := hA0.1
  have hlt2 := hA0.2
  clear hA0
  rcases hAB with ⟨hle, e1, e2⟩ | ⟨hle, e2, e1⟩
  all_goals
    rw [e1, e2] at hle
  · have d1 : decide ((B : Int) < (A : Int)) = false := by simp; omega
    have d1' : decide (B < A) = false := by simp; omega
    go_enter Try.func10, Try.ntmps10
    go_wp2_with (fail)
    refine (H21.out).mono ?_
    rintro e w0 ⟨rfl, hb0⟩
    have B0 := Lib.hid hb0
    clear hb0
    go_wp2_with (fail)
    refine (T1.out _ B0.out).mono ?_
    rintro e w1 ⟨a1, n1, c1, rfl, i1, b1⟩
    have I1 := Lib.hid i1
    have B1 := Lib.hid (bstep B0.out b1)
    clear i1 b1
    go_wp2_with (fail)
    refine (T2.out _ B1.out).mono ?_
    rintro e w2 ⟨a2, n2, c2, rfl, i2, b2⟩
    have I2 := Lib.hid i2
    have K1 := Lib.hid (I1.out.mono (Nat.le_refl _) b2)
    have B2 := Lib.hid (bstep B1.out b2)
    clear i2 b2 I1
    go_wp2_with (fail)
    refine (T3.out _ B2.out).mono ?_
    rintro e w3 ⟨a3, n3, c3, rfl, i3, b3⟩
    have I3 := Lib.hid i3
    have L1 := Lib.hid (K1.out.mono (Nat.le_refl _) b3)
    have L2 := Lib.hid (I2.out.mono (Nat.le_refl _) b3)
    have B3 := Lib.hid (bstep B2.out b3)
    obtain rfl : n3 = 1 := by rw [← i3.len]; exact HONE.out
    clear i3 b3 K1 I2
    go_wp2_with (fail)
    refine (T4.out _ B3.out).mono ?_
    rintro e w4 ⟨a4, n4, c4, rfl, i4, b4⟩
    obtain rfl : n4 = n := by rw [← i4.len, tabF_len]
    have I4 := Lib.hid i4
    have M1 := Lib.hid (L1.out.mono (Nat.le_refl _) b4)
    have M2 := Lib.hid (L2.out.mono (Nat.le_refl _) b4)
    have M3 := Lib.hid (I3.out.mono (Nat.le_refl _) b4)
    have B4 := Lib.hid (bstep B3.out b4)
    have e3 : ((n4 : Int) != n4) = false := by simp
    clear i4 b4 L1 L2 I3
    go_wp2_with (fail)
    obtain ⟨W4, hW4⟩ : ∃ W4, w4.alloc (.cells #[.slice a1 n1 c1, .slice a2 n2 c2, .slice a3 1 c3] 22) = W4 := ⟨_, rfl⟩
    have hbb : Below w4.heap.size w4 W4 := by rw [← hW4]; exact balloc _ _
    have N1 := Lib.hid (M1.out.mono (Nat.le_refl _) hbb)
    have N2 := Lib.hid (M2.out.mono (Nat.le_refl _) hbb)
    have N3 := Lib.hid (M3.out.mono (Nat.le_refl _) hbb)
    have N4 := Lib.hid (I4.out.mono (Nat.le_refl _) hbb)
    have hlit : ∀ k, k < 3 → ∃ a' n' c' aK, W4.cell? ⟨w4.heap.size, k, none⟩ = some (.slice a' n' c') ∧ Rows2 W4 a' n' (cluU (connB aK n4) n4 n4) ∧ ∀ x y, aK x y = aK y x := by
      intro k hk
      rcases (show k = 0 ∨ k = 1 ∨ k = 2 by omega) with rfl | rfl | rfl
      · exact ⟨_, _, _, _, by rw [← hW4]; exact cell_fresh rfl rfl, N1.out, SA.out⟩
      · exact ⟨_, _, _, _, by rw [← hW4]; exact cell_fresh rfl rfl, N2.out, SB.out⟩
      · exact ⟨_, _, _, _, by rw [← hW4]; exact cell_fresh rfl rfl, N3.out, SC.out⟩
    have HLIT := Lib.hid hlit
    have B5 := Lib.hid (bstep B4.out hbb)
    rw [hW4]
    clear hW4 hbb M1 M2 M3 I4 hlit
    go_loopw [85] (fun kv wr => ∃ k : Nat, k ≤ 3 ∧ kv = .int .i64 k ∧ Below W4.heap.size W4 wr) (fun kv _ => 3 - (intOf kv).toNat)
    case atStart => exact ⟨0, by omega, rfl, Below.refl _ _⟩
    case round =>
      obtain ⟨k, hk, rfl, hbr⟩ := hrel
      have HBR := Lib.hid hbr
      by_cases hlt : k < 3
      · obtain ⟨a', n', c', aK, hck, hT, hsy⟩ := HLIT.out k hlt
        have hck := cell_keep hbr hck
        have HT := Lib.hid (hT.mono (Nat.le_refl _) hbr)
        have HNE := Lib.hid (clu_nonempty (adj := aK) (n := n4))
        have HFL := Lib.hid (clu_flat (n := n4) hsy)
        have hfl := clu_flat_len (n := n4) hsy
        have HHD := Lib.hid (clu_heads (n := n4) hsy)
        have hf0 : 0 < (cluU (connB aK n4) n4 n4).flatten.length := by
          obtain ⟨l, hl, hm⟩ := clu_has hsy hpos
          exact List.length_pos_of_mem (List.mem_flatten.2 ⟨l, hl, hm⟩)
        have HI64 := Lib.hid (show ∀ x ∈ (cluU (connB aK n4) n4 n4).flatten, I64 x by
          intro x hx
          have : x ∈ sortI (cluU (connB aK n4) n4 n4).flatten := (sortI_perm _).mem_iff.2 hx
          rw [HFL.out] at this
          exact memb_i64 (by omega) x this)
        clear hT hsy hbr
        generalize cluU (connB aK n4) n4 n4 = CL at *
        have HCC := Lib.hid (concat43 a' n' c' CL wr HT.out (by omega) (fun l hl => (HNE.out l hl).1))
        generalize CL.flatten = FL at *
        go_wp2_with (fail)
        refine (HCC.out).mono ?_
        rintro e w5 ⟨v, rfl, hown, hb5⟩
        rw [List.length_map] at hown
        have HO5 := Lib.hid (show OwnI 3 w5 wr.heap.size v FL from ⟨hown, HI64.out⟩)
        have HT5 := Lib.hid (HT.out.mono (Nat.le_refl _) hb5)
        have HB5 := Lib.hid (bstep HBR.out hb5)
        have HBS := Lib.hid hb5.size
        obtain ⟨ao, co, rfl⟩ := owns_slice hown
        clear hown hb5
        go_wp2_with (fail)
        refine (sortedF44 a' n' c' CL w5 HT5.out HHD.out).mono ?_
        rintro e w' ⟨rfl, q, rfl⟩
        have HC25 := contf25 (fun _ => false) a' n' c' CL 47 #[] (w5.drewN q) HT5.out.drewN (enters_of Try.func47 (by kernel_rfl) rfl) (by
          rintro q' xs v hx ⟨a'', n'', c'', rfl, hI⟩
          have := HNE.out xs hx
          exact fine47 a'' n'' c'' xs _ hI.drewN (by rw [← hI.len]; exact this.1) this.2)
        rw [show (CL.any fun _ => false) = false by simp] at HC25
        have HC25 := Lib.hid HC25
        go_wp2_with (fail)
        refine (HC25.out).mono ?_
        rintro e w' ⟨rfl, q2, rfl⟩
        rw [drewN2]
        obtain ⟨w6, hw6⟩ : ∃ w6, w5.drewN (q + q2) = w6 := ⟨_, rfl⟩
        have hb6 : Below w5.heap.size w5 w6 := by rw [← hw6]; exact bdrewN _ _
        have HO6 := Lib.hid (OwnI.below HO5.out hb6)
        have HB6 := Lib.hid (bstep HB5.out hb6)
        have hs6 : wr.heap.size ≤ w6.heap.size := Nat.le_trans HBS.out hb6.size
        rw [hw6]
        clear hw6 hb6 HC25
        obtain ⟨gb, cg, hveq, hsort⟩ := sort48 wr.heap.size _ FL w6 HO6.out (by omega) hf0
        simp only [Value.slice.injEq] at hveq
        obtain ⟨rfl, -, rfl⟩ := hveq
        have HSORT := Lib.hid hsort
        clear hsort
        go_wp2_with (fail)
        refine (HSORT.out).mono ?_
        rintro e w7 ⟨rfl, ho7, hgr7, hgb7⟩
        rw [HFL.out] at ho7
        have HB7 := Lib.hid (HB6.out.trans ((Below.refl W4.heap.size w6).grown hgr7 HB6.out.size (fun j hj => by cases hj; have := HBR.out.size; omega)))
        obtain ⟨ax, cx, hvx, hIx⟩ := OwnI.ints ho7 (by have := memb_len (fun _ => true) n4; omega)
        simp only [Value.slice.injEq] at hvx
        obtain ⟨rfl, hlx, rfl⟩ := hvx
        rw [← hlx] at hIx
        have HI7 := Lib.hid hIx
        clear ho7 hgr7 hIx hlx
        go_wp2_with (fail)
        have hch := chosen22 n4 255 w7 (by omega) ⟨by omega, by omega⟩
        rw [chosen255] at hch
        refine hch.mono ?_
        clear hch
        rintro e w8 ⟨a8, n8, c8, rfl, hI8, hb8⟩
        have HI8 := Lib.hid hI8
        have HI78 := Lib.hid (HI7.out.mono (Nat.le_refl _) hb8)
        have HB8 := Lib.hid (bstep HB7.out hb8)
        clear hI8 hb8 HI7
        go_wp2_with (fail)
        refine (equal20 _ _ _ _ _ _ _ _ _ HI78.out HI8.out).mono ?_
        rintro e w' ⟨rfl, q9, rfl⟩
        rw [eqL_self]
        go_wp2_with (fail)
        go_roundw
        case rel => exact ⟨k + 1, by omega, by go_num, bstep HB8.out (bdrewN _ _)⟩
        case measure => simp [intOf]; omega
      · obtain rfl : k = 3 := by omega
        rw [show ((3 : Nat) : Int) = 3 from rfl]
        obtain ⟨bd, od, rfl, hTD⟩ := tab_at N4.out hpos
        have HTD := Lib.hid hTD
        have PA := Lib.hid (fun (s : Int) (W : World) (hb : Below W4.heap.size W4 W) => place40 a1 n1 c1 _ s W (N1.out.mono (Nat.le_refl _) hb))
        have PB := Lib.hid (fun (s : Int) (W : World) (hb : Below W4.heap.size W4 W) => place40 a2 n2 c2 _ s W (N2.out.mono (Nat.le_refl _) hb))
        have H1 := Lib.hid (show ∀ i k, i < n4 → k < n4 → rdsF S m i k ≤ (A : Int) → placeL (cluU (connB aA n4) n4 n4) i = placeL (cluU (connB aA n4) n4 n4) k from fun i k hi hk h => (HPL.out i k hi hk).2 (Conn.one hi hk (HAD.out i k h)))
        have H2 := Lib.hid (show ∀ i k, i < n4 → k < n4 → placeL (cluU (connB aA n4) n4 n4) i = placeL (cluU (connB aA n4) n4 n4) k → placeL (cluU (connB aB n4) n4 n4) i = placeL (cluU (connB aB n4) n4 n4) k from fun i k hi hk h => (HPM.out i k hi hk).2 (conn_mono HMO.out ((HPL.out i k hi hk).1 h)))
        clear N1 N2 N3 N4 HLIT hTD HPL HPM HMO HAD hbr
        generalize cluU (connB aA n4) n4 n4 = CA at *
        generalize cluU (connB aB n4) n4 n4 = CB at *
        go_wp2_with (fail)
        go_loopw [107] (fun kv wr => ∃ i : Nat, i ≤ n4 ∧ kv = .int .i64 i ∧ Below W4.heap.size W4 wr) (fun kv _ => n4 - (intOf kv).toNat)
        case atStart => exact ⟨0, by omega, rfl, HBR.out⟩
        case round =>
          clear HBR
          obtain ⟨i, hi', rfl, hbr⟩ := hrel
          have HBR := Lib.hid hbr
          clear hbr
          by_cases hil : i < n4
          · go_wp2_with (fail)
            go_loopw [111] (fun kv wr => ∃ k : Nat, k ≤ n4 ∧ kv = .int .i64 k ∧ Below W4.heap.size W4 wr) (fun kv _ => n4 - (intOf kv).toNat)
            case atStart => exact ⟨0, by omega, rfl, HBR.out⟩
            case round =>
              clear HBR
              obtain ⟨k, hk', rfl, hbr⟩ := hrel
              have HBR2 := Lib.hid hbr
              by_cases hkl : k < n4
              · obtain ⟨b', o', c', f1, f2⟩ := (TabAt.keep HTD.out hbr) i hil
                have f3 := f2 k hkl
                have G1 := Lib.hid (H1.out i k hil hkl)
                have G2 := Lib.hid (H2.out i k hil hkl)
                have PAi := PA.out (i : Int)
                have PAk := PA.out (k : Int)
                have PBi := PB.out (i : Int)
                have PBk := PB.out (k : Int)
                generalize rdsF S m i k = x at *
                generalize placeL CA i = pi at *
                generalize placeL CA k = pk at *
                generalize placeL CB i = qi at *
                generalize placeL CB k = qk at *
                clear f2 hbr
                by_cases hx : x ≤ (A : Int)
                · have d2 : decide (x ≤ (A : Int)) = true := by simpa using hx
                  obtain rfl : pi = pk := G1.out hx
                  obtain rfl : qi = qk := G2.out rfl
                  have e5 : (pi != pi) = false := by simp
                  have e6 : (pi == pi) = true := by simp
                  have e7 : (qi != qi) = false := by simp
                  have PAi := Lib.hid (fun (_ : Unit) => PAi)
                  have PAk := Lib.hid (fun (_ : Unit) => PAk)
                  have PBi := Lib.hid (fun (_ : Unit) => PBi)
                  have PBk := Lib.hid (fun (_ : Unit) => PBk)
                  go_wp2_with (fail)
                  refine (PAi.out () _ HBR2.out).mono ?_
                  rintro e x0 ⟨rfl, hb⟩
                  have Qx0 := Lib.hid (bstep HBR2.out hb)
                  clear hb
                  go_wp2_with (fail)
                  refine (PAk.out () _ Qx0.out).mono ?_
                  rintro e x1 ⟨rfl, hb⟩
                  have Qx1 := Lib.hid (bstep Qx0.out hb)
                  clear hb
                  go_wp2_with (fail)
                  refine (PAi.out () _ Qx1.out).mono ?_
                  rintro e x2 ⟨rfl, hb⟩
                  have Qx2 := Lib.hid (bstep Qx1.out hb)
                  clear hb
                  go_wp2_with (fail)
                  refine (PAk.out () _ Qx2.out).mono ?_
                  rintro e x3 ⟨rfl, hb⟩
                  have Qx3 := Lib.hid (bstep Qx2.out hb)
                  clear hb
                  go_wp2_with (fail)
                  refine (PBi.out () _ Qx3.out).mono ?_
                  rintro e x4 ⟨rfl, hb⟩
                  have Qx4 := Lib.hid (bstep Qx3.out hb)
                  clear hb
                  go_wp2_with (fail)
                  refine (PBk.out () _ Qx4.out).mono ?_
                  rintro e x5 ⟨rfl, hb⟩
                  have Qx5 := Lib.hid (bstep Qx4.out hb)
                  clear hb
                  go_wp2_with (fail)
                  go_roundw
                  case rel => exact ⟨k + 1, by omega, by go_num, Qx5.out⟩
                  case measure => simp [intOf]; omega
                · have d2 : decide (x ≤ (A : Int)) = false := by simpa using hx
                  have PAi := Lib.hid (fun (_ : Unit) => PAi)
                  have PAk := Lib.hid (fun (_ : Unit) => PAk)
                  have PBi := Lib.hid (fun (_ : Unit) => PBi)
                  have PBk := Lib.hid (fun (_ : Unit) => PBk)
                  by_cases hp : pi = pk
                  · subst hp
                    obtain rfl : qi = qk := G2.out rfl
                    have e6 : (pi == pi) = true := by simp
                    have e7 : (qi != qi) = false := by simp
                    go_wp2_with (fail)
                    refine (PAi.out () _ HBR2.out).mono ?_
                    rintro e x0 ⟨rfl, hb⟩
                    have Qx0 := Lib.hid (bstep HBR2.out hb)
                    clear hb
                    go_wp2_with (fail)
                    refine (PAk.out () _ Qx0.out).mono ?_
                    rintro e x1 ⟨rfl, hb⟩
                    have Qx1 := Lib.hid (bstep Qx0.out hb)
                    clear hb
                    go_wp2_with (fail)
                    refine (PBi.out () _ Qx1.out).mono ?_
                    rintro e x2 ⟨rfl, hb⟩
                    have Qx2 := Lib.hid (bstep Qx1.out hb)
                    clear hb
                    go_wp2_with (fail)
                    refine (PBk.out () _ Qx2.out).mono ?_
                    rintro e x3 ⟨rfl, hb⟩
                    have Qx3 := Lib.hid (bstep Qx2.out hb)
                    clear hb
                    go_wp2_with (fail)
                    go_roundw
                    case rel => exact ⟨k + 1, by omega, by go_num, Qx3.out⟩
                    case measure => simp [intOf]; omega
                  · have e6 : (pi == pk) = false := by simpa using hp
                    clear hp
                    go_wp2_with (fail)
                    refine (PAi.out () _ HBR2.out).mono ?_
                    rintro e x0 ⟨rfl, hb⟩
                    have Qx0 := Lib.hid (bstep HBR2.out hb)
                    clear hb
                    go_wp2_with (fail)
                    refine (PAk.out () _ Qx0.out).mono ?_
                    rintro e x1 ⟨rfl, hb⟩
                    have Qx1 := Lib.hid (bstep Qx0.out hb)
                    clear hb
                    go_wp2_with (fail)
                    go_roundw
                    case rel => exact ⟨k + 1, by omega, by go_num, Qx1.out⟩
                    case measure => simp [intOf]; omega
              · obtain rfl : n4 = k := by omega
                go_wp2_with (fail)
                go_roundw
                case rel => exact ⟨i + 1, by omega, by go_num, HBR2.out⟩
                case measure => simp [intOf]; omega
          · go_wp2_with (fail)
            refine (awake12 _).mono ?_
            rintro e w9 ⟨rfl, k9⟩
            go_wp2_with (fail)
            go_ret
            exact ⟨rfl, bstep B5.out (bstep HBR.out k9)⟩

  · have d1 : decide ((A : Int) < (B : Int)) = true := by simp; omega
    have d1' : decide (A < B) = true := by simp; omega
    go_enter Try.func10, Try.ntmps10
    go_wp2_with (fail)
    refine (H21.out).mono ?_
    rintro e w0 ⟨rfl, hb0⟩
    have B0 := Lib.hid hb0
    clear hb0
    go_wp2_with (fail)
    refine (T1.out _ B0.out).mono ?_
    rintro e w1 ⟨a1, n1, c1, rfl, i1, b1⟩
    have I1 := Lib.hid i1
    have B1 := Lib.hid (bstep B0.out b1)
    clear i1 b1
    go_wp2_with (fail)
    refine (T2.out _ B1.out).mono ?_
    rintro e w2 ⟨a2, n2, c2, rfl, i2, b2⟩
    have I2 := Lib.hid i2
    have K1 := Lib.hid (I1.out.mono (Nat.le_refl _) b2)
    have B2 := Lib.hid (bstep B1.out b2)
    clear i2 b2 I1
    go_wp2_with (fail)
    refine (T3.out _ B2.out).mono ?_
    rintro e w3 ⟨a3, n3, c3, rfl, i3, b3⟩
    have I3 := Lib.hid i3
    have L1 := Lib.hid (K1.out.mono (Nat.le_refl _) b3)
    have L2 := Lib.hid (I2.out.mono (Nat.le_refl _) b3)
    have B3 := Lib.hid (bstep B2.out b3)
    obtain rfl : n3 = 1 := by rw [← i3.len]; exact HONE.out
    clear i3 b3 K1 I2
    go_wp2_with (fail)
    refine (T4.out _ B3.out).mono ?_
    rintro e w4 ⟨a4, n4, c4, rfl, i4, b4⟩
    obtain rfl : n4 = n := by rw [← i4.len, tabF_len]
    have I4 := Lib.hid i4
    have M1 := Lib.hid (L1.out.mono (Nat.le_refl _) b4)
    have M2 := Lib.hid (L2.out.mono (Nat.le_refl _) b4)
    have M3 := Lib.hid (I3.out.mono (Nat.le_refl _) b4)
    have B4 := Lib.hid (bstep B3.out b4)
    have e3 : ((n4 : Int) != n4) = false := by simp
    clear i4 b4 L1 L2 I3
    go_wp2_with (fail)
    obtain ⟨W4, hW4⟩ : ∃ W4, w4.alloc (.cells #[.slice a1 n1 c1, .slice a2 n2 c2, .slice a3 1 c3] 22) = W4 := ⟨_, rfl⟩
    have hbb : Below w4.heap.size w4 W4 := by rw [← hW4]; exact balloc _ _
    have N1 := Lib.hid (M1.out.mono (Nat.le_refl _) hbb)
    have N2 := Lib.hid (M2.out.mono (Nat.le_refl _) hbb)
    have N3 := Lib.hid (M3.out.mono (Nat.le_refl _) hbb)
    have N4 := Lib.hid (I4.out.mono (Nat.le_refl _) hbb)
    have hlit : ∀ k, k < 3 → ∃ a' n' c' aK, W4.cell? ⟨w4.heap.size, k, none⟩ = some (.slice a' n' c') ∧ Rows2 W4 a' n' (cluU (connB aK n4) n4 n4) ∧ ∀ x y, aK x y = aK y x := by
      intro k hk
      rcases (show k = 0 ∨ k = 1 ∨ k = 2 by omega) with rfl | rfl | rfl
      · exact ⟨_, _, _, _, by rw [← hW4]; exact cell_fresh rfl rfl, N1.out, SA.out⟩
      · exact ⟨_, _, _, _, by rw [← hW4]; exact cell_fresh rfl rfl, N2.out, SB.out⟩
      · exact ⟨_, _, _, _, by rw [← hW4]; exact cell_fresh rfl rfl, N3.out, SC.out⟩
    have HLIT := Lib.hid hlit
    have B5 := Lib.hid (bstep B4.out hbb)
    rw [hW4]
    clear hW4 hbb M1 M2 M3 I4 hlit
    go_loopw [85] (fun kv wr => ∃ k : Nat, k ≤ 3 ∧ kv = .int .i64 k ∧ Below W4.heap.size W4 wr) (fun kv _ => 3 - (intOf kv).toNat)
    case atStart => exact ⟨0, by omega, rfl, Below.refl _ _⟩
    case round =>
      obtain ⟨k, hk, rfl, hbr⟩ := hrel
      have HBR := Lib.hid hbr
      by_cases hlt : k < 3
      · obtain ⟨a', n', c', aK, hck, hT, hsy⟩ := HLIT.out k hlt
        have hck := cell_keep hbr hck
        have HT := Lib.hid (hT.mono (Nat.le_refl _) hbr)
        have HNE := Lib.hid (clu_nonempty (adj := aK) (n := n4))
        have HFL := Lib.hid (clu_flat (n := n4) hsy)
        have hfl := clu_flat_len (n := n4) hsy
        have HHD := Lib.hid (clu_heads (n := n4) hsy)
        have hf0 : 0 < (cluU (connB aK n4) n4 n4).flatten.length := by
          obtain ⟨l, hl, hm⟩ := clu_has hsy hpos
          exact List.length_pos_of_mem (List.mem_flatten.2 ⟨l, hl, hm⟩)
        have HI64 := Lib.hid (show ∀ x ∈ (cluU (connB aK n4) n4 n4).flatten, I64 x by
          intro x hx
          have : x ∈ sortI (cluU (connB aK n4) n4 n4).flatten := (sortI_perm _).mem_iff.2 hx
          rw [HFL.out] at this
          exact memb_i64 (by omega) x this)
        clear hT hsy hbr
        generalize cluU (connB aK n4) n4 n4 = CL at *
        have HCC := Lib.hid (concat43 a' n' c' CL wr HT.out (by omega) (fun l hl => (HNE.out l hl).1))
        generalize CL.flatten = FL at *
        go_wp2_with (fail)
        refine (HCC.out).mono ?_
        rintro e w5 ⟨v, rfl, hown, hb5⟩
        rw [List.length_map] at hown
        have HO5 := Lib.hid (show OwnI 3 w5 wr.heap.size v FL from ⟨hown, HI64.out⟩)
        have HT5 := Lib.hid (HT.out.mono (Nat.le_refl _) hb5)
        have HB5 := Lib.hid (bstep HBR.out hb5)
        have HBS := Lib.hid hb5.size
        obtain ⟨ao, co, rfl⟩ := owns_slice hown
        clear hown hb5
        go_wp2_with (fail)
        refine (sortedF44 a' n' c' CL w5 HT5.out HHD.out).mono ?_
        rintro e w' ⟨rfl, q, rfl⟩
        have HC25 := contf25 (fun _ => false) a' n' c' CL 47 #[] (w5.drewN q) HT5.out.drewN (enters_of Try.func47 (by kernel_rfl) rfl) (by
          rintro q' xs v hx ⟨a'', n'', c'', rfl, hI⟩
          have := HNE.out xs hx
          exact fine47 a'' n'' c'' xs _ hI.drewN (by rw [← hI.len]; exact this.1) this.2)
        rw [show (CL.any fun _ => false) = false by simp] at HC25
        have HC25 := Lib.hid HC25
        go_wp2_with (fail)
        refine (HC25.out).mono ?_
        rintro e w' ⟨rfl, q2, rfl⟩
        rw [drewN2]
        obtain ⟨w6, hw6⟩ : ∃ w6, w5.drewN (q + q2) = w6 := ⟨_, rfl⟩
        have hb6 : Below w5.heap.size w5 w6 := by rw [← hw6]; exact bdrewN _ _
        have HO6 := Lib.hid (OwnI.below HO5.out hb6)
        have HB6 := Lib.hid (bstep HB5.out hb6)
        have hs6 : wr.heap.size ≤ w6.heap.size := Nat.le_trans HBS.out hb6.size
        rw [hw6]
        clear hw6 hb6 HC25
        obtain ⟨gb, cg, hveq, hsort⟩ := sort48 wr.heap.size _ FL w6 HO6.out (by omega) hf0
        simp only [Value.slice.injEq] at hveq
        obtain ⟨rfl, -, rfl⟩ := hveq
        have HSORT := Lib.hid hsort
        clear hsort
        go_wp2_with (fail)
        refine (HSORT.out).mono ?_
        rintro e w7 ⟨rfl, ho7, hgr7, hgb7⟩
        rw [HFL.out] at ho7
        have HB7 := Lib.hid (HB6.out.trans ((Below.refl W4.heap.size w6).grown hgr7 HB6.out.size (fun j hj => by cases hj; have := HBR.out.size; omega)))
        obtain ⟨ax, cx, hvx, hIx⟩ := OwnI.ints ho7 (by have := memb_len (fun _ => true) n4; omega)
        simp only [Value.slice.injEq] at hvx
        obtain ⟨rfl, hlx, rfl⟩ := hvx
        rw [← hlx] at hIx
        have HI7 := Lib.hid hIx
        clear ho7 hgr7 hIx hlx
        go_wp2_with (fail)
        have hch := chosen22 n4 255 w7 (by omega) ⟨by omega, by omega⟩
        rw [chosen255] at hch
        refine hch.mono ?_
        clear hch
        rintro e w8 ⟨a8, n8, c8, rfl, hI8, hb8⟩
        have HI8 := Lib.hid hI8
        have HI78 := Lib.hid (HI7.out.mono (Nat.le_refl _) hb8)
        have HB8 := Lib.hid (bstep HB7.out hb8)
        clear hI8 hb8 HI7
        go_wp2_with (fail)
        refine (equal20 _ _ _ _ _ _ _ _ _ HI78.out HI8.out).mono ?_
        rintro e w' ⟨rfl, q9, rfl⟩
        rw [eqL_self]
        go_wp2_with (fail)
        go_roundw
        case rel => exact ⟨k + 1, by omega, by go_num, bstep HB8.out (bdrewN _ _)⟩
        case measure => simp [intOf]; omega
      · obtain rfl : k = 3 := by omega
        rw [show ((3 : Nat) : Int) = 3 from rfl]
        obtain ⟨bd, od, rfl, hTD⟩ := tab_at N4.out hpos
        have HTD := Lib.hid hTD
        have PA := Lib.hid (fun (s : Int) (W : World) (hb : Below W4.heap.size W4 W) => place40 a1 n1 c1 _ s W (N1.out.mono (Nat.le_refl _) hb))
        have PB := Lib.hid (fun (s : Int) (W : World) (hb : Below W4.heap.size W4 W) => place40 a2 n2 c2 _ s W (N2.out.mono (Nat.le_refl _) hb))
        have H1 := Lib.hid (show ∀ i k, i < n4 → k < n4 → rdsF S m i k ≤ (A : Int) → placeL (cluU (connB aA n4) n4 n4) i = placeL (cluU (connB aA n4) n4 n4) k from fun i k hi hk h => (HPL.out i k hi hk).2 (Conn.one hi hk (HAD.out i k h)))
        have H2 := Lib.hid (show ∀ i k, i < n4 → k < n4 → placeL (cluU (connB aA n4) n4 n4) i = placeL (cluU (connB aA n4) n4 n4) k → placeL (cluU (connB aB n4) n4 n4) i = placeL (cluU (connB aB n4) n4 n4) k from fun i k hi hk h => (HPM.out i k hi hk).2 (conn_mono HMO.out ((HPL.out i k hi hk).1 h)))
        clear N1 N2 N3 N4 HLIT hTD HPL HPM HMO HAD hbr
        generalize cluU (connB aA n4) n4 n4 = CA at *
        generalize cluU (connB aB n4) n4 n4 = CB at *
        go_wp2_with (fail)
        go_loopw [107] (fun kv wr => ∃ i : Nat, i ≤ n4 ∧ kv = .int .i64 i ∧ Below W4.heap.size W4 wr) (fun kv _ => n4 - (intOf kv).toNat)
        case atStart => exact ⟨0, by omega, rfl, HBR.out⟩
        case round =>
          clear HBR
          obtain ⟨i, hi', rfl, hbr⟩ := hrel
          have HBR := Lib.hid hbr
          clear hbr
          by_cases hil : i < n4
          · go_wp2_with (fail)
            go_loopw [111] (fun kv wr => ∃ k : Nat, k ≤ n4 ∧ kv = .int .i64 k ∧ Below W4.heap.size W4 wr) (fun kv _ => n4 - (intOf kv).toNat)
            case atStart => exact ⟨0, by omega, rfl, HBR.out⟩
            case round =>
              clear HBR
              obtain ⟨k, hk', rfl, hbr⟩ := hrel
              have HBR2 := Lib.hid hbr
              by_cases hkl : k < n4
              · obtain ⟨b', o', c', f1, f2⟩ := (TabAt.keep HTD.out hbr) i hil
                have f3 := f2 k hkl
                have G1 := Lib.hid (H1.out i k hil hkl)
                have G2 := Lib.hid (H2.out i k hil hkl)
                have PAi := PA.out (i : Int)
                have PAk := PA.out (k : Int)
                have PBi := PB.out (i : Int)
                have PBk := PB.out (k : Int)
                generalize rdsF S m i k = x at *
                generalize placeL CA i = pi at *
                generalize placeL CA k = pk at *
                generalize placeL CB i = qi at *
                generalize placeL CB k = qk at *
                clear f2 hbr
                by_cases hx : x ≤ (A : Int)
                · have d2 : decide (x ≤ (A : Int)) = true := by simpa using hx
                  obtain rfl : pi = pk := G1.out hx
                  obtain rfl : qi = qk := G2.out rfl
                  have e5 : (pi != pi) = false := by simp
                  have e6 : (pi == pi) = true := by simp
                  have e7 : (qi != qi) = false := by simp
                  have PAi := Lib.hid (fun (_ : Unit) => PAi)
                  have PAk := Lib.hid (fun (_ : Unit) => PAk)
                  have PBi := Lib.hid (fun (_ : Unit) => PBi)
                  have PBk := Lib.hid (fun (_ : Unit) => PBk)
                  go_wp2_with (fail)
                  refine (PAi.out () _ HBR2.out).mono ?_
                  rintro e x0 ⟨rfl, hb⟩
                  have Qx0 := Lib.hid (bstep HBR2.out hb)
                  clear hb
                  go_wp2_with (fail)
                  refine (PAk.out () _ Qx0.out).mono ?_
                  rintro e x1 ⟨rfl, hb⟩
                  have Qx1 := Lib.hid (bstep Qx0.out hb)
                  clear hb
                  go_wp2_with (fail)
                  refine (PAi.out () _ Qx1.out).mono ?_
                  rintro e x2 ⟨rfl, hb⟩
                  have Qx2 := Lib.hid (bstep Qx1.out hb)
                  clear hb
                  go_wp2_with (fail)
                  refine (PAk.out () _ Qx2.out).mono ?_
                  rintro e x3 ⟨rfl, hb⟩
                  have Qx3 := Lib.hid (bstep Qx2.out hb)
                  clear hb
                  go_wp2_with (fail)
                  refine (PBi.out () _ Qx3.out).mono ?_
                  rintro e x4 ⟨rfl, hb⟩
                  have Qx4 := Lib.hid (bstep Qx3.out hb)
                  clear hb
                  go_wp2_with (fail)
                  refine (PBk.out () _ Qx4.out).mono ?_
                  rintro e x5 ⟨rfl, hb⟩
                  have Qx5 := Lib.hid (bstep Qx4.out hb)
                  clear hb
                  go_wp2_with (fail)
                  go_roundw
                  case rel => exact ⟨k + 1, by omega, by go_num, Qx5.out⟩
                  case measure => simp [intOf]; omega
                · have d2 : decide (x ≤ (A : Int)) = false := by simpa using hx
                  have PAi := Lib.hid (fun (_ : Unit) => PAi)
                  have PAk := Lib.hid (fun (_ : Unit) => PAk)
                  have PBi := Lib.hid (fun (_ : Unit) => PBi)
                  have PBk := Lib.hid (fun (_ : Unit) => PBk)
                  by_cases hp : pi = pk
                  · subst hp
                    obtain rfl : qi = qk := G2.out rfl
                    have e6 : (pi == pi) = true := by simp
                    have e7 : (qi != qi) = false := by simp
                    go_wp2_with (fail)
                    refine (PAi.out () _ HBR2.out).mono ?_
                    rintro e x0 ⟨rfl, hb⟩
                    have Qx0 := Lib.hid (bstep HBR2.out hb)
                    clear hb
                    go_wp2_with (fail)
                    refine (PAk.out () _ Qx0.out).mono ?_
                    rintro e x1 ⟨rfl, hb⟩
                    have Qx1 := Lib.hid (bstep Qx0.out hb)
                    clear hb
                    go_wp2_with (fail)
                    refine (PBi.out () _ Qx1.out).mono ?_
                    rintro e x2 ⟨rfl, hb⟩
                    have Qx2 := Lib.hid (bstep Qx1.out hb)
                    clear hb
                    go_wp2_with (fail)
                    refine (PBk.out () _ Qx2.out).mono ?_
                    rintro e x3 ⟨rfl, hb⟩
                    have Qx3 := Lib.hid (bstep Qx2.out hb)
                    clear hb
                    go_wp2_with (fail)
                    go_roundw
                    case rel => exact ⟨k + 1, by omega, by go_num, Qx3.out⟩
                    case measure => simp [intOf]; omega
                  · have e6 : (pi == pk) = false := by simpa using hp
                    clear hp
                    go_wp2_with (fail)
                    refine (PAi.out () _ HBR2.out).mono ?_
                    rintro e x0 ⟨rfl, hb⟩
                    have Qx0 := Lib.hid (bstep HBR2.out hb)
                    clear hb
                    go_wp2_with (fail)
                    refine (PAk.out () _ Qx0.out).mono ?_
                    rintro e x1 ⟨rfl, hb⟩
                    have Qx1 := Lib.hid (bstep Qx0.out hb)
                    clear hb
                    go_wp2_with (fail)
                    go_roundw
                    case rel => exact ⟨k + 1, by omega, by go_num, Qx1.out⟩
                    case measure => simp [intOf]; omega
              · obtain rfl : n4 = k := by omega
                go_wp2_with (fail)
                go_roundw
                case rel => exact ⟨i + 1, by omega, by go_num, HBR2.out⟩
                case measure => simp [intOf]; omega
          · go_wp2_with (fail)
            refine (awake12 _).mono ?_
            rintro e w9 ⟨rfl, k9⟩
            go_wp2_with (fail)
            go_ret
            exact ⟨rfl, bstep B5.out (bstep HBR.out k9)⟩


set_option maxRecDepth 200000 in
theorem law10 (a : Option Addr) (n c : Nat) (S : List (List Int)) (z1 z2 : Int) (w : World) (h : Rows2 w a n S) (hz : 0 ≤ z1 ∧ z1 ≤ 65535) (hz' : 0 ≤ z2 ∧ z2 ≤ 65535) :
    Calls Try.prog 10 #[.slice a n c, .int .u16 z1, .int .u16 z2] w fun e w' => e = .returned (.bool true) ∧ Below w.heap.size w w' := by
  have H21 := fine21 a n c S w h
  cases hF : fineB S
  · rw [hF] at H21
    have H21 := Lib.hid H21
    clear hF h
    go_enter Try.func10, Try.ntmps10
    go_wp2_with (fail)
    refine (H21.out).mono ?_
    rintro e w' ⟨rfl, q, rfl⟩
    go_wp2_with (fail)
    refine (awake12 _).mono ?_
    rintro e w9 ⟨rfl, k9⟩
    go_wp2_with (fail)
    go_ret
    exact ⟨rfl, bstep (bdrewN _ _) k9⟩
  · by_cases hle : z1 % 1001 ≤ z2 % 1001
    · exact law10_ok a n c _ S z1 z2 (z1 % 1001).toNat (z2 % 1001).toNat w h hz hz' hF (chkS_ok (fineB_ok hF)) (.inl ⟨hle, by omega, by omega⟩)
    · exact law10_ok a n c _ S z1 z2 (z2 % 1001).toNat (z1 % 1001).toNat w h hz hz' hF (chkS_ok (fineB_ok hF)) (.inr ⟨hle, by omega, by omega⟩)

end Go.Proofs.Ytbcnbchpcbglhaa
