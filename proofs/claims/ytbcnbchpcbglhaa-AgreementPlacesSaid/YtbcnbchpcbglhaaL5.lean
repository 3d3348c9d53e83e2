/-
  The walk of AgreementNearest.
-/
import Derived.Test.YtbcnbchpcbglhaaPNames
import Derived.Deep.RegionHeld3
namespace Go.Proofs.Ytbcnbchpcbglhaa
open Go.RowKit Go.Ap Go.Shelf Go.Proofs

/-- two that are joined lie in one group -/
theorem clu_joined {adj : Nat → Nat → Bool} {n i j : Nat} (hs : ∀ a b, adj a b = adj b a) (h : Conn adj n i j) : (cluU (connB adj n) n n).any (fun l => hasI l i && hasI l j) = true := by
  obtain ⟨m, hm, hmin⟩ := least_mem i i (Nat.le_refl _) (Conn.refl (adj := adj) h.left)
  have hl : isL (connB adj n) m = true := by
    unfold isL
    rw [List.all_eq_true]
    intro a ha
    have ha' := List.mem_range.1 ha
    cases hc : connB adj n a m
    · rfl
    · have := hmin a (hm.trans ((connB_iff.1 hc).symm hs))
      omega
  rw [List.any_eq_true]
  refine ⟨memb (connB adj n m) n, ?_, ?_⟩
  · unfold cluU
    exact List.mem_map.2 ⟨m, List.mem_filter.2 ⟨List.mem_range.2 hm.right, hl⟩, rfl⟩
  · rw [Bool.and_eq_true]
    refine ⟨List.contains_iff_mem.2 (memb_mem.2 ⟨i, rfl, h.left, connB_iff.2 (hm.symm hs)⟩), List.contains_iff_mem.2 (memb_mem.2 ⟨j, rfl, h.right, connB_iff.2 ((hm.symm hs).trans h)⟩)⟩

theorem near_some {S : List (List Int)} {m i : Nat} (hi : i < S.length) (h1 : S.length ≠ 1) : ∃ b, nearO S m i S.length = some b ∧ b < S.length ∧ b ≠ i ∧
    ∀ k, k < S.length → k ≠ i → ¬ rdsF S m i k < rdsF S m i b ∧ (rdsF S m i k = rdsF S m i b → ¬ k < b) := by
  have hsp := nearO_spec S m i S.length
  cases hb : nearO S m i S.length with
  | none =>
    rw [hb] at hsp
    have h0 := hsp 0 (by omega)
    have h2 := hsp 1 (by omega)
    omega
  | some b =>
    rw [hb] at hsp
    refine ⟨b, rfl, hsp.1, hsp.2.1, fun k hk hne => ?_⟩
    have := hsp.2.2 k hk hne
    have e1 : rdsF S m i b = dist (row S i) (row S b) m := by rw [rdsF, distR, if_neg (Ne.symm hsp.2.1)]
    have e2 : rdsF S m i k = dist (row S i) (row S k) m := by rw [rdsF, distR, if_neg (Ne.symm hne)]
    rw [e1, e2]
    exact ⟨by omega, fun e hlt => by have := this.2 hlt; omega⟩

theorem both26 (a : Option Addr) (n c : Nat) (xs : List Int) (B1 B2 : Nat) (i j : Int) (w : World) (h : Ints w a n xs) (h1 : w.cell? ⟨B1, 0, none⟩ = some (.int .i64 i)) (h2 : w.cell? ⟨B2, 0, none⟩ = some (.int .i64 j)) :
    Calls Try.prog 26 #[.slice a n c, .pointer (some ⟨B1, 0, none⟩), .pointer (some ⟨B2, 0, none⟩)] w fun e w' => e = .returned (.bool (hasI xs i && hasI xs j)) ∧ ∃ q, w' = w.drewN q := by
  have H1 := contains27 a n c xs i w h
  have H2 := Lib.hid (contains27 a n c xs j w h)
  cases hi : hasI xs i
  · rw [hi] at H1
    have H1 := Lib.hid H1
    clear hi
    go_enter Try.func26, Try.ntmps26
    go_wp2_with (fail)
    refine (H1.out).mono ?_
    rintro e w' ⟨rfl, rfl⟩
    go_wp2_with (fail)
    go_ret
    exact ⟨rfl, 0, rfl⟩
  · rw [hi] at H1
    have H1 := Lib.hid H1
    rw [Bool.true_and]
    generalize hasI xs j = r at *
    clear hi
    go_enter Try.func26, Try.ntmps26
    go_wp2_with (fail)
    refine (H1.out).mono ?_
    rintro e w' ⟨rfl, rfl⟩
    go_wp2_with (fail)
    refine (H2.out).mono ?_
    rintro e w' ⟨rfl, rfl⟩
    go_wp2_with (fail)
    go_ret
    exact ⟨rfl, 0, rfl⟩

theorem fine21b (a : Option Addr) (n c : Nat) (S : List (List Int)) (w : World) (h : Rows2 w a n S) :
    Calls Try.prog 21 #[.slice a n c] w fun e w' => e = .returned (.bool (fineB S)) ∧ Below w.heap.size w w' :=
  (fine21 a n c S w h).mono (by rintro e w' ⟨rfl, q, rfl⟩; exact ⟨rfl, bdrewN _ _⟩)
theorem cell_keep {w w' : World} {b o : Nat} {v : Value} (hb : Below w.heap.size w w') (h : w.cell? ⟨b, o, none⟩ = some v) : w'.cell? ⟨b, o, none⟩ = some v :=
  (hb.cell (p := ⟨b, o, none⟩) (World.block_lt_of_cell? _ _ h)).trans h

set_option maxRecDepth 100000 in
set_option maxHeartbeats 4000000 in
theorem law5_many (a : Option Addr) (n c m : Nat) (S : List (List Int)) (z : Int) (w : World) (h : Rows2 w a n S) (hz : 0 ≤ z ∧ z ≤ 255) (hF : fineB S = true) (ok : OkS S m) (h1 : n ≠ 1) :
    Calls Try.prog 5 #[.slice a n c, .int .u8 z] w fun e w' => e = .returned (.bool true) ∧ Below w.heap.size w w' := by
  have H21 := fine21b a n c S w h
  rw [hF] at H21
  have H21 := Lib.hid H21
  have HL := Lib.hid h.len
  have HH := Lib.hid h
  have CH := Lib.hid (chkS_of ok)
  have HM := Lib.hid (show m = (row S 0).length from (ok.row_len ok.pos).symm)
  have hw := ok.wid
  have hn32 : n ≤ 32 := by rw [← h.len]; exact ok.le
  have hpos : 0 < n := by rw [← h.len]; exact ok.pos
  obtain ⟨hz3, hz4⟩ := hz
  obtain ⟨zn, rfl⟩ : ∃ zn : Nat, z = zn := ⟨z.toNat, by omega⟩
  obtain ⟨i, hi⟩ : ∃ i : Nat, zn % n = i := ⟨_, rfl⟩
  have hin : i < n := by rw [← hi]; exact Nat.mod_lt _ hpos
  have him : (zn : Int) % (n : Int) = (i : Int) := by rw [← hi]; rfl
  obtain ⟨b, hnb, hbn, hbi, hmin⟩ := near_some (m := m) (S := S) (i := i) (by rw [h.len]; exact hin) (by rw [h.len]; exact h1)
  rw [h.len] at hbn
  have HMIN := Lib.hid (show ∀ k, k < n → k ≠ i → ¬ rdsF S m i k < rdsF S m i b ∧ (rdsF S m i k = rdsF S m i b → ¬ k < b) from fun k hk => hmin k (by rw [h.len]; exact hk))
  have HNE := Lib.hid (show nearE S (i : Int) = 0 by rw [nearE, if_neg (by simp [CH.out]), if_neg (by rw [HL.out]; omega), if_neg (by rw [HL.out]; exact h1)])
  have HNV := Lib.hid (show nearV S m (i : Int) = (b : Int) by rw [nearV, if_pos HNE.out, Int.toNat_natCast, hnb]; rfl)
  have HER := Lib.hid (show errR S = 0 by rw [errR, if_pos CH.out])
  have HDT := Lib.hid (show tabR (rdsF S m) S = tabF (rdsF S m) n n by rw [tabR_ok ok, HL.out])
  have hyb := rdsF_bound S m i b
  have hy1 := hyb.1
  have hy2 := hyb.2
  have HCE := Lib.hid (show cluE S (rdsF S m i b) = 0 by rw [cluE, if_neg (by simp [CH.out]), if_neg (by omega)])
  have HCR := Lib.hid (show (cluR S m (rdsF S m i b)).any (fun l => hasI l i && hasI l b) = true by
    rw [cluR, if_pos HCE.out]
    refine clu_joined (adjD_symm S m _) (Conn.one (by rw [HL.out]; exact hin) (by rw [HL.out]; exact hbn) ?_)
    simp [adjD])
  have e1 : ((n : Int) == 1) = false := by rw [beq_eq_false_iff_ne]; omega
  have e2 : ((b : Int) == i) = false := by rw [beq_eq_false_iff_ne]; omega
  have e3 : ((n : Int) != n) = false := by simp
  clear h ok hF hi hnb hmin h1 hbi hyb
  go_enter Try.func5, Try.ntmps5
  go_wp2_with (fail)
  refine (H21.out).mono ?_
  rintro e w0 ⟨rfl, hb0⟩
  have B0 := Lib.hid hb0
  clear hb0
  go_wp2_with (fail)
  obtain ⟨W0, hW0⟩ : ∃ W0, w0.alloc (.cells #[.int .i64 i] 3) = W0 := ⟨_, rfl⟩
  have hc5 : W0.cell? ⟨w0.heap.size, 0, none⟩ = some (.int .i64 i) := by rw [← hW0]; exact cell_fresh rfl rfl
  have K0 := Lib.hid (show Below w0.heap.size w0 W0 by rw [← hW0]; exact balloc _ _)
  rw [hW0]
  clear hW0
  have h1 := nearest13 a n c m i S W0 (HH.out.mono (Nat.le_refl _) (bstep B0.out K0.out)) ⟨by omega, by omega⟩ HM.out
  rw [HNE.out, HNV.out] at h1
  refine h1.mono ?_
  clear h1
  rintro e w1 ⟨rfl, hb1⟩
  have hc5' := cell_keep hb1 hc5
  have K1 := Lib.hid (bstep K0.out hb1)
  clear hb1 hc5
  go_wp2_with (fail)
  obtain ⟨W1, hW1⟩ : ∃ W1, w1.alloc (.cells #[.int .i64 b] 3) = W1 := ⟨_, rfl⟩
  have hc6 : W1.cell? ⟨w1.heap.size, 0, none⟩ = some (.int .i64 b) := by rw [← hW1]; exact cell_fresh rfl rfl
  have hbb : Below w1.heap.size w1 W1 := by rw [← hW1]; exact balloc _ _
  have hc5 := cell_keep hbb hc5'
  have K2 := Lib.hid (bstep K1.out hbb)
  rw [hW1]
  clear hW1 hc5' hbb
  have h1 := distances24 a n c m S W1 (HH.out.mono (Nat.le_refl _) (bstep B0.out K2.out)) HM.out
  rw [HER.out, HDT.out] at h1
  refine h1.mono ?_
  clear h1
  rintro e w2 ⟨ad, nd, cd, rfl, hD, hb2⟩
  obtain rfl : nd = n := by rw [← hD.len, tabF_len]
  have h5 := cell_keep hb2 hc5
  have h6 := cell_keep hb2 hc6
  have K3 := Lib.hid (bstep K2.out hb2)
  clear hc5 hc6 hb2
  obtain ⟨bd, od, rfl, hcd⟩ := Rows2.all hD hpos
  obtain ⟨ar, nr, cr, hcr, hIr⟩ := hcd i hin
  rw [row_tabF hin] at hIr
  obtain rfl : nr = nd := by rw [← hIr.len, lineF_len]
  obtain ⟨be, oe, rfl, hce⟩ := Ints.at hIr hpos
  have HCE2 := Lib.hid hce
  have hcb := hce b hbn
  rw [nth_lineF hbn] at hcb
  clear hD hcd hIr hce
  go_wp2_with (fail)
  go_loopw [87] (fun kv wr => ∃ k q : Nat, k ≤ nr ∧ kv = .int .i64 k ∧ wr = w2.drewN q) (fun kv _ => nr - (intOf kv).toNat)
  case atStart => exact ⟨0, 0, by omega, rfl, rfl⟩
  case round =>
    obtain ⟨k, q, hk, rfl, rfl⟩ := hrel
    by_cases hlt : k < nr
    · have hck := HCE2.out k hlt
      rw [nth_lineF hlt] at hck
      by_cases hki : k = i
      · subst hki
        have d1 : ((k : Int) != k) = false := by simp
        go_wp2_with (fail)
        go_quiet (fail)
        go_wp2_with (fail)
        exact ⟨⟨k + 1, _, by omega, by go_num, rfl⟩, by simp [intOf]; omega⟩
      · have d1 : ((k : Int) != i) = true := by rw [bne_iff_ne]; omega
        obtain ⟨g1, g2⟩ := HMIN.out k hlt hki
        generalize rdsF S m i k = x at *
        generalize rdsF S m i b = y at *
        have d2 : decide (x < y) = false := by simpa using g1
        by_cases hxy : x = y
        · have d3 : (x == y) = true := by simpa using hxy
          have d4 : decide ((k : Int) < (b : Int)) = false := by have := g2 hxy; simp; omega
          have d5 : decide (k < b) = false := by have := g2 hxy; simp; omega
          clear g1 g2 hxy hki
          go_wp2_with (fail)
          go_quiet (fail)
          go_wp2_with (fail)
          exact ⟨⟨k + 1, _, by omega, by go_num, rfl⟩, by simp [intOf]; omega⟩
        · have d3 : (x == y) = false := by simpa using hxy
          clear g1 g2 hxy hki
          go_wp2_with (fail)
          go_quiet (fail)
          go_wp2_with (fail)
          exact ⟨⟨k + 1, _, by omega, by go_num, rfl⟩, by simp [intOf]; omega⟩
    · have T1 := fun W (hb : Below w.heap.size w W) => clusters15 a nr c m (rdsF S m i b) S W (HH.out.mono (Nat.le_refl _) hb) HM.out
      rw [HCE.out] at T1
      have T1 := Lib.hid T1
      generalize cluR S m (rdsF S m i b) = R at *
      generalize rdsF S m i b = y at *
      obtain ⟨w3, hw3⟩ : ∃ w3, w2.drewN q = w3 := ⟨_, rfl⟩
      have hb3 : Below w2.heap.size w2 w3 := by rw [← hw3]; exact bdrewN _ _
      have h5 := cell_keep hb3 h5
      have h6 := cell_keep hb3 h6
      have hcr := cell_keep hb3 hcr
      have hcb := cell_keep hb3 hcb
      have B3 := Lib.hid (bstep B0.out (bstep K3.out hb3))
      have K4 := Lib.hid (bstep K3.out hb3)
      rw [hw3]
      clear hw3 hb3
      have HK := Lib.hid (show ∀ W, Below w3.heap.size w3 W → (W.cell? ⟨w0.heap.size, 0, none⟩ = some (.int .i64 i) ∧ W.cell? ⟨w1.heap.size, 0, none⟩ = some (.int .i64 b) ∧ W.cell? ⟨bd, od + i, none⟩ = some (.slice (some ⟨be, oe, none⟩) nr cr) ∧ W.cell? ⟨be, oe + b, none⟩ = some (.int .i64 y) ∧ Below w3.heap.size w3 W) from
        fun W hb => ⟨cell_keep hb h5, cell_keep hb h6, cell_keep hb hcr, cell_keep hb hcb, hb⟩)
      have p1 : (0 : Int) ≤ (i : Int) := by omega
      have p2 : (i : Int) < (nr : Int) := by omega
      have p3 : (0 : Int) ≤ (b : Int) := by omega
      have p4 : (b : Int) < (nr : Int) := by omega
      go_wp2_with (fail)
      go_region_held3 (fun W => W.cell? ⟨w0.heap.size, 0, none⟩ = some (.int .i64 i) ∧ W.cell? ⟨w1.heap.size, 0, none⟩ = some (.int .i64 b) ∧ W.cell? ⟨bd, od + i, none⟩ = some (.slice (some ⟨be, oe, none⟩) nr cr) ∧ W.cell? ⟨be, oe + b, none⟩ = some (.int .i64 y) ∧ Below w3.heap.size w3 W)
        ((refine HK.out _ ?_; first | exact (Below.refl _ _).drew | (refine bstep ?_ hb2; exact (‹_ ∧ _ ∧ _ ∧ _ ∧ Below w3.heap.size w3 _›).2.2.2.2) | exact (‹_ ∧ _ ∧ _ ∧ _ ∧ Below w3.heap.size w3 _›).2.2.2.2))
        (first | (go_at_call 15; refine Calls.mono (T1.out _ ?_) ?_; exact bstep B3.out (‹_ ∧ _ ∧ _ ∧ _ ∧ Below w3.heap.size w3 _›).2.2.2.2; rintro e w' ⟨al, nl, cl, rfl, il, hb2⟩))
      have hb4 := (‹_ ∧ _ ∧ _ ∧ _ ∧ Below w3.heap.size w3 _›).2.2.2.2
      have g5 := cell_keep hb4 h5
      have g6 := cell_keep hb4 h6
      have HC25 := contf25 (fun l => hasI l i && hasI l b) al nl cl R 26 #[.pointer (some ⟨w0.heap.size, 0, none⟩), .pointer (some ⟨w1.heap.size, 0, none⟩)] w' il (enters_of Try.func26 (by kernel_rfl) rfl) (by
        rintro q' xs v hx ⟨a', n', c', rfl, hI⟩
        exact both26 a' n' c' xs _ _ _ _ _ hI.drewN g5 g6)
      rw [HCR.out] at HC25
      have HC25 := Lib.hid HC25
      have B4 := Lib.hid (bstep B3.out hb4)
      clear hb2 il
      rename_i hHeld
      clear hHeld g5 g6 hb4
      go_wp2_with (fail)
      refine (HC25.out).mono ?_
      rintro e w5 ⟨rfl, q5, rfl⟩
      go_wp2_with (fail)
      refine (awake12 _).mono ?_
      rintro e w9 ⟨rfl, k9⟩
      go_wp2_with (fail)
      go_ret
      exact ⟨rfl, bstep B4.out (bstep (bdrewN _ _) k9)⟩

set_option maxHeartbeats 1000000 in
theorem law5_one (a : Option Addr) (c m : Nat) (S : List (List Int)) (z : Int) (w : World) (h : Rows2 w a 1 S) (hz : 0 ≤ z ∧ z ≤ 255) (hF : fineB S = true) (ok : OkS S m) :
    Calls Try.prog 5 #[.slice a 1 c, .int .u8 z] w fun e w' => e = .returned (.bool true) ∧ Below w.heap.size w w' := by
  have H21 := fine21b a 1 c S w h
  rw [hF] at H21
  have H21 := Lib.hid H21
  have HL := Lib.hid h.len
  have HH := Lib.hid h
  have CH := Lib.hid (chkS_of ok)
  have HM := Lib.hid (show m = (row S 0).length from (ok.row_len ok.pos).symm)
  obtain ⟨hz3, hz4⟩ := hz
  have HNE := Lib.hid (show nearE S 0 = 6 by rw [nearE, if_neg (by simp [CH.out]), if_neg (by rw [HL.out]; omega), if_pos HL.out])
  have HNV := Lib.hid (show nearV S m 0 = 0 by rw [nearV, if_neg (by rw [HNE.out]; omega)])
  have HER := Lib.hid (show errR S = 0 by rw [errR, if_pos CH.out])
  have HDT := Lib.hid (show tabR (rdsF S m) S = tabF (rdsF S m) 1 1 by rw [tabR_ok ok, HL.out])
  have hmod : z % 1 = 0 := by omega
  clear h ok hF
  go_enter Try.func5, Try.ntmps5
  go_wp2_with (fail)
  refine (H21.out).mono ?_
  rintro e w0 ⟨rfl, hb0⟩
  have B0 := Lib.hid hb0
  clear hb0
  go_wp2_with (fail)
  obtain ⟨W0, hW0⟩ : ∃ W0, w0.alloc (.cells #[.int .i64 0] 3) = W0 := ⟨_, rfl⟩
  have hc5 : W0.cell? ⟨w0.heap.size, 0, none⟩ = some (.int .i64 0) := by rw [← hW0]; exact cell_fresh rfl rfl
  have K0 := Lib.hid (show Below w0.heap.size w0 W0 by rw [← hW0]; exact balloc _ _)
  rw [hW0]
  clear hW0
  have h1 := nearest13 a 1 c m 0 S W0 (HH.out.mono (Nat.le_refl _) (bstep B0.out K0.out)) ⟨by omega, by omega⟩ HM.out
  rw [HNE.out, HNV.out] at h1
  refine h1.mono ?_
  clear h1
  rintro e w1 ⟨rfl, hb1⟩
  have hc5' := cell_keep hb1 hc5
  have K1 := Lib.hid (bstep K0.out hb1)
  clear hb1 hc5
  go_wp2_with (fail)
  obtain ⟨W1, hW1⟩ : ∃ W1, w1.alloc (.cells #[.int .i64 0] 3) = W1 := ⟨_, rfl⟩
  have hc6 : W1.cell? ⟨w1.heap.size, 0, none⟩ = some (.int .i64 0) := by rw [← hW1]; exact cell_fresh rfl rfl
  have hbb : Below w1.heap.size w1 W1 := by rw [← hW1]; exact balloc _ _
  have hc5 := cell_keep hbb hc5'
  have K2 := Lib.hid (bstep K1.out hbb)
  rw [hW1]
  clear hW1 hc5' hbb
  have h1 := distances24 a 1 c m S W1 (HH.out.mono (Nat.le_refl _) (bstep B0.out K2.out)) HM.out
  rw [HER.out, HDT.out] at h1
  refine h1.mono ?_
  clear h1
  rintro e w2 ⟨ad, nd, cd, rfl, hD, hb2⟩
  obtain rfl : nd = 1 := by rw [← hD.len, tabF_len]
  have h5 := cell_keep hb2 hc5
  have h6 := cell_keep hb2 hc6
  have K3 := Lib.hid (bstep K2.out hb2)
  clear hc5 hc6 hb2
  obtain ⟨bd, od, rfl, hcd⟩ := Rows2.all hD (by omega)
  obtain ⟨ar, nr, cr, hcr, hIr⟩ := hcd 0 (by omega)
  rw [row_tabF (by omega)] at hIr
  obtain rfl : nr = 1 := by rw [← hIr.len, lineF_len]
  simp only [Nat.add_zero] at hcr
  clear hD hcd hIr
  go_wp2_with (fail)
  refine (awake12 _).mono ?_
  rintro e w9 ⟨rfl, k9⟩
  go_wp2_with (fail)
  go_ret
  exact ⟨rfl, bstep B0.out (bstep K3.out k9)⟩

theorem law5 (a : Option Addr) (n c : Nat) (S : List (List Int)) (z : Int) (w : World) (h : Rows2 w a n S) (hz : 0 ≤ z ∧ z ≤ 255) :
    Calls Try.prog 5 #[.slice a n c, .int .u8 z] w fun e w' => e = .returned (.bool true) ∧ Below w.heap.size w w' := by
  have H21 := fine21 a n c S w h
  cases hF : fineB S
  · rw [hF] at H21
    have H21 := Lib.hid H21
    clear hF h
    go_enter Try.func5, Try.ntmps5
    go_wp2_with (fail)
    refine (H21.out).mono ?_
    rintro e w' ⟨rfl, q, rfl⟩
    go_wp2_with (fail)
    refine (awake12 _).mono ?_
    rintro e w9 ⟨rfl, k9⟩
    go_wp2_with (fail)
    go_ret
    exact ⟨rfl, bstep (bdrewN _ _) k9⟩
  · by_cases h1 : n = 1
    · subst h1
      exact law5_one a c _ S z w h hz hF (chkS_ok (fineB_ok hF))
    · exact law5_many a n c _ S z w h hz hF (chkS_ok (fineB_ok hF)) h1

end Go.Proofs.Ytbcnbchpcbglhaa
