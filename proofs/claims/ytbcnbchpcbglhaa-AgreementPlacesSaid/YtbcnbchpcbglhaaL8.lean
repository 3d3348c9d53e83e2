/-
  The walk of AgreementShared.
-/
import Derived.Test.YtbcnbchpcbglhaaL5
namespace Go.Proofs.Ytbcnbchpcbglhaa
open Go.RowKit Go.Ap Go.Shelf Go.Proofs

theorem less57 (x y : Int) (w : World) (h : y ≤ x) : Calls Try.prog 57 #[.int .i64 x, .int .i64 y] w fun e w' => e = .returned (.bool false) ∧ ∃ q, w' = w.drewN q := by
  refine (Try.cmp_Less_int2 x y w).mono ?_
  rintro e w' ⟨rfl, rfl⟩
  exact ⟨ret_b (by simp; omega), 0, rfl⟩

theorem sorted35 (a : Option Addr) (n c : Nat) (xs : List Int) (w : World) (h : Ints w a n xs) (hs : xs.Pairwise (· ≤ ·)) :
    Calls Try.prog 35 #[.slice a n c] w fun e w' => e = .returned (.bool true) ∧ ∃ q, w' = w.drewN q := by
  have hsm := h.small
  have HH := Lib.hid h
  have HL := Lib.hid h.len
  have HS := Lib.hid hs
  clear h hs
  go_enter Try.func35, Try.ntmps35
  go_wp2_with (fail)
  go_loopw [3] (fun iv wr => ∃ (z : Int) (q : Nat), -1 ≤ z ∧ z < n ∧ iv = .int .i64 z ∧ wr = w.drewN q) (fun iv _ => (intOf iv + 1).toNat)
  case atStart => exact ⟨_, 0, by omega, by omega, rfl, rfl⟩
  case round =>
    obtain ⟨z, q, hz1, hz2, rfl, hwr⟩ := hrel
    by_cases h0 : 0 < z
    · obtain ⟨k, rfl⟩ : ∃ k : Nat, z = k + 1 := ⟨(z - 1).toNat, by omega⟩
      obtain ⟨b, o, rfl, hc⟩ := Ints.at HH.out (by omega)
      have hle : nth xs k ≤ nth xs (k + 1) := by
        have hk1 : k + 1 < xs.length := by rw [HL.out]; omega
        rw [nth_eq hk1, nth_eq (by omega)]
        exact List.pairwise_iff_getElem.1 HS.out k (k + 1) (by omega) hk1 (by omega)
      have hc1 : wr.cell? ⟨b, o + (k + 1), none⟩ = some (.int .i64 (nth xs (k + 1))) := by rw [hwr]; exact hc (k + 1) (by omega)
      have hc2 : wr.cell? ⟨b, o + k, none⟩ = some (.int .i64 (nth xs k)) := by rw [hwr]; exact hc k (by omega)
      have HW := Lib.hid hwr
      generalize nth xs (k + 1) = x at *
      generalize nth xs k = y at *
      have H57 := Lib.hid (fun q => less57 x y (wr.drewN q) hle)
      have s1 : IntKind.i64.wrap ((k : Int) + 1 - 1) = (k : Int) := by rw [show (k : Int) + 1 - 1 = (k : Int) by omega]; exact IntWalk.i64_in _ (by omega)
      have s2 : ((k : Int) + 1).toNat = k + 1 := by omega
      have s3 : (0 : Int) ≤ (k : Int) + 1 := by omega
      clear hc hwr hle
      go_wp2_with (fail)
      go_quiet ((go_at_call 57; exact Calls.quiet_of (H57.out _)))
      clear s1 s2
      go_wp2_with (fail)
      go_roundw
      case rel => exact ⟨(k : Int), _, by omega, by omega, by go_num, by rw [HW.out, drewN2]⟩
      case measure => simp [intOf]; omega
    · subst hwr
      go_wp2_with (fail)
      go_ret
      exact ⟨rfl, _, rfl⟩

theorem shP_iff {S : List (List Int)} {A : List Int} {n p : Nat} (h : shP S A n p = true) : 0 ≤ st0 S A p ∧ ∀ i, i < n → (nth (row S i) p == st0 S A p) = hasI A i := by
  unfold shP at h
  obtain ⟨h1, h2⟩ := Bool.and_eq_true_iff.1 h
  refine ⟨by simpa using h1, fun i hi => ?_⟩
  have := List.all_eq_true.1 h2 i (List.mem_range.2 hi)
  unfold agP at this
  simpa using this
theorem shared_apart {S : List (List Int)} {A B : List Int} {n m : Nat} (hA : SrcL n A) (hB : SrcL n B) (hc : A.any (hasI B) = true) (hne : eqL A B = false) :
    (memb (shP S A n) m).any (hasI (memb (shP S B n) m)) = false := by
  rw [List.any_eq_false]
  intro k hk hk2
  obtain ⟨p, rfl, _, h1⟩ := memb_mem.1 hk
  obtain ⟨p', e, _, h2⟩ := memb_mem.1 (List.contains_iff_mem.1 hk2)
  obtain rfl : p = p' := by omega
  obtain ⟨_, g1⟩ := shP_iff h1
  obtain ⟨_, g2⟩ := shP_iff h2
  obtain ⟨s, hs, hs2⟩ := List.any_eq_true.1 hc
  have hsA := hA.2 s hs
  obtain ⟨j, rfl⟩ : ∃ j : Nat, s = j := ⟨s.toNat, by omega⟩
  have e1 := g1 j (by omega)
  have e2 := g2 j (by omega)
  rw [show hasI A j = true from List.contains_iff_mem.2 hs, beq_iff_eq] at e1
  rw [hs2, beq_iff_eq] at e2
  have hst : st0 S A p = st0 S B p := by rw [← e1, ← e2]
  have hAB : A = B := by
    rw [← src_memb hA, ← src_memb hB]
    exact memb_congr fun i hi => by rw [← g1 i hi, ← g2 i hi, hst]
  rw [eqL, beq_eq_false_iff_ne] at hne
  exact hne hAB

theorem has37 (Bx : Nat) (a : Option Addr) (n c : Nat) (xs : List Int) (x : Int) (w : World) (hb : w.cell? ⟨Bx, 0, none⟩ = some (.slice a n c)) (h : Ints w a n xs) :
    Calls Try.prog 37 #[.int .i64 x, .pointer (some ⟨Bx, 0, none⟩)] w fun e w' => e = .returned (.bool (hasI xs x)) ∧ ∃ q, w' = w.drewN q := by
  have H := Lib.hid (contains27 a n c xs x w h)
  go_enter Try.func37, Try.ntmps37
  go_wp2_with (fail)
  refine (H.out).mono ?_
  rintro e w' ⟨rfl, rfl⟩
  go_wp2_with (fail)
  go_ret
  exact ⟨rfl, 0, rfl⟩
theorem has38 (Bx : Nat) (a : Option Addr) (n c : Nat) (xs : List Int) (x : Int) (w : World) (hb : w.cell? ⟨Bx, 0, none⟩ = some (.slice a n c)) (h : Ints w a n xs) :
    Calls Try.prog 38 #[.int .i64 x, .pointer (some ⟨Bx, 0, none⟩)] w fun e w' => e = .returned (.bool (hasI xs x)) ∧ ∃ q, w' = w.drewN q := by
  have H := Lib.hid (contains27 a n c xs x w h)
  go_enter Try.func38, Try.ntmps38
  go_wp2_with (fail)
  refine (H.out).mono ?_
  rintro e w' ⟨rfl, rfl⟩
  go_wp2_with (fail)
  go_ret
  exact ⟨rfl, 0, rfl⟩

set_option maxRecDepth 100000 in
set_option maxHeartbeats 4000000 in
theorem law8_ok (a : Option Addr) (n c m : Nat) (S : List (List Int)) (z1 z2 : Int) (w : World) (h : Rows2 w a n S) (hz : 0 ≤ z1 ∧ z1 ≤ 255) (hz' : 0 ≤ z2 ∧ z2 ≤ 255) (hF : fineB S = true) (ok : OkS S m) :
    Calls Try.prog 8 #[.slice a n c, .int .u8 z1, .int .u8 z2] w fun e w' => e = .returned (.bool true) ∧ Below w.heap.size w w' := by
  have H21 := fine21b a n c S w h
  rw [hF] at H21
  have H21 := Lib.hid H21
  have HL := Lib.hid h.len
  have HH := Lib.hid h
  have OK := Lib.hid ok
  have CH := Lib.hid (chkS_of ok)
  have hw := ok.wid
  have hn32 : n ≤ 32 := by rw [← h.len]; exact ok.le
  have hpos : 0 < n := by rw [← h.len]; exact ok.pos
  have C1 := Lib.hid (fun W => chosen22 n z1 W (by omega) hz)
  have C2 := Lib.hid (fun W => chosen22 n z2 W (by omega) hz')
  obtain ⟨s1, s1'⟩ := chosen_src n z1 hpos
  obtain ⟨s2, _⟩ := chosen_src n z2 hpos
  have E1 := Lib.hid (show shrE S (chosenL n z1) = 0 by rw [← HL.out]; exact chosen_shrE CH.out z1)
  have E2 := Lib.hid (show shrE S (chosenL n z2) = 0 by rw [← HL.out]; exact chosen_shrE CH.out z2)
  generalize chosenL n z1 = A at *
  generalize chosenL n z2 = B at *
  have hm0 : (row S 0).length = m := ok.row_len ok.pos
  have R1 := Lib.hid (show shrL S A = memb (shP S A n) m by rw [shrL, if_pos E1.out, hm0, HL.out])
  have R2 := Lib.hid (show shrL S B = memb (shP S B n) m by rw [shrL, if_pos E2.out, hm0, HL.out])
  have S1 := Lib.hid s1
  have AP := Lib.hid (fun (hc : A.any (hasI B) = true) (hne : eqL A B = false) => shared_apart (S := S) (m := m) s1 s2 hc hne)
  have HA0 := Lib.hid s1'
  clear h ok hF hz hz' s1 s2 s1' hm0
  go_enter Try.func8, Try.ntmps8
  go_wp2_with (fail)
  refine (H21.out).mono ?_
  rintro e w0 ⟨rfl, hb0⟩
  have B0 := Lib.hid hb0
  clear hb0
  go_wp2_with (fail)
  refine (C1.out w0).mono ?_
  rintro e w1 ⟨aa, na, ca, rfl, ia, hb1⟩
  have IA := Lib.hid ia
  have K1 := Lib.hid hb1
  clear ia hb1
  go_wp2_with (fail)
  refine (C2.out w1).mono ?_
  rintro e w2 ⟨ab, nb, cb, rfl, ib, hb2⟩
  have IB := Lib.hid ib
  have IA2 := Lib.hid (IA.out.mono (Nat.le_refl _) hb2)
  have K2 := Lib.hid (bstep K1.out hb2)
  clear ib hb2 IA
  go_wp2_with (fail)
  obtain ⟨W2, hW2⟩ : ∃ W2, w2.alloc (.cells #[.slice ab nb cb] 23) = W2 := ⟨_, rfl⟩
  have hcb : W2.cell? ⟨w2.heap.size, 0, none⟩ = some (.slice ab nb cb) := by rw [← hW2]; exact cell_fresh rfl rfl
  have hbb : Below w2.heap.size w2 W2 := by rw [← hW2]; exact balloc _ _
  have IA3 := Lib.hid (IA2.out.mono (Nat.le_refl _) hbb)
  have IB3 := Lib.hid (IB.out.mono (Nat.le_refl _) hbb)
  have K3 := Lib.hid (bstep K2.out hbb)
  rw [hW2]
  clear hW2 hbb IA2 IB
  have h1 := shared17 a aa n c na ca S A W2 (HH.out.mono (Nat.le_refl _) (bstep B0.out K3.out)) IA3.out
  rw [E1.out, R1.out] at h1
  refine h1.mono ?_
  clear h1
  rintro e w3 ⟨al, nl, cl, rfl, il, hb3⟩
  have hcb3 := cell_keep hb3 hcb
  have IA4 := Lib.hid (IA3.out.mono (Nat.le_refl _) hb3)
  have IB4 := Lib.hid (IB3.out.mono (Nat.le_refl _) hb3)
  have IL := Lib.hid il
  have K4 := Lib.hid (bstep K3.out hb3)
  clear hb3 il hcb IA3 IB3
  go_wp2_with (fail)
  have h1 := shared17 a ab n c nb cb S B w3 (HH.out.mono (Nat.le_refl _) (bstep B0.out K4.out)) IB4.out
  rw [E2.out, R2.out] at h1
  refine h1.mono ?_
  clear h1
  rintro e w4 ⟨am, nm, cm, rfl, im, hb4⟩
  have hcb4 := cell_keep hb4 hcb3
  have IA5 := Lib.hid (IA4.out.mono (Nat.le_refl _) hb4)
  have IB5 := Lib.hid (IB4.out.mono (Nat.le_refl _) hb4)
  have IL5 := Lib.hid (IL.out.mono (Nat.le_refl _) hb4)
  have IM := Lib.hid im
  have K5 := Lib.hid (bstep K4.out hb4)
  clear hb4 im hcb3 IA4 IB4 IL
  go_wp2_with (fail)
  obtain ⟨W4, hW4⟩ : ∃ W4, w4.alloc (.cells #[.slice am nm cm] 23) = W4 := ⟨_, rfl⟩
  have hcm : W4.cell? ⟨w4.heap.size, 0, none⟩ = some (.slice am nm cm) := by rw [← hW4]; exact cell_fresh rfl rfl
  have hbb : Below w4.heap.size w4 W4 := by rw [← hW4]; exact balloc _ _
  have hcb := cell_keep hbb hcb4
  have IA := Lib.hid (IA5.out.mono (Nat.le_refl _) hbb)
  have IB := Lib.hid (IB5.out.mono (Nat.le_refl _) hbb)
  have IL := Lib.hid (IL5.out.mono (Nat.le_refl _) hbb)
  have IM2 := Lib.hid (IM.out.mono (Nat.le_refl _) hbb)
  have B4 := Lib.hid (bstep B0.out (bstep K5.out hbb))
  rw [hW4]
  clear hW4 hbb hcb4 IA5 IB5 IL5 IM
  refine (sorted35 al nl cl _ W4 IL.out ((memb_pair _ _).imp (fun h => by omega))).mono ?_
  rintro e w' ⟨rfl, q, rfl⟩
  have hnl := IL.out.small
  have HLL := Lib.hid IL.out.len
  have hHA := HA0.out
  have HAL := Lib.hid IA.out.len
  have hna : 0 < na := by rw [← IA.out.len]; omega
  obtain ⟨s0, hs0⟩ : ∃ s0 : Nat, nth A 0 = s0 := ⟨(nth A 0).toNat, by have := S1.out.2 _ (nth_mem (xs := A) (k := 0) (by omega)); omega⟩
  have hs0n : s0 < n := by have := S1.out.2 _ (nth_mem (xs := A) (k := 0) (by omega)); omega
  have HST := Lib.hid (show ∀ p, st0 S A p = nth (row S s0) p from fun p => by rw [st0, hs0]; rfl)
  obtain ⟨ba, oa, rfl, hca⟩ := Ints.at IA.out hna
  have hca0 := hca 0 hna
  rw [hs0, Nat.add_zero] at hca0
  obtain ⟨b1, o1, rfl, hc1⟩ := Rows2.all (HH.out.mono (Nat.le_refl _) B4.out) hpos
  have HC1 := Lib.hid hc1
  obtain ⟨ar0, nr0, cr0, hcr0, hIr0⟩ := hc1 0 hpos
  obtain rfl : m = nr0 := by rw [← hIr0.len]; exact (OK.out.row_len (by rw [HL.out]; exact hpos)).symm
  obtain ⟨ars, nrs, crs, hcrs, hIrs⟩ := hc1 s0 hs0n
  obtain rfl : m = nrs := by rw [← hIrs.len]; exact (OK.out.row_len (by rw [HL.out]; exact hs0n)).symm
  have HIRS := Lib.hid hIrs
  simp only [Nat.add_zero] at hcr0
  clear hs0 hca hc1 hIr0 hIrs hHA
  go_wp2_with (fail)
  go_loopw [55] (fun iv wr => ∃ (k q : Nat), k ≤ nl ∧ iv = .int .i64 k ∧ wr = W4.drewN q) (fun iv _ => nl - (intOf iv).toNat)
  case atStart => exact ⟨0, q, by omega, rfl, rfl⟩
  case round =>
    obtain ⟨k, q, hk, rfl, rfl⟩ := hrel
    by_cases hlt : k < nl
    · obtain ⟨bl, ol, rfl, hcl⟩ := Ints.at IL.out (by omega)
      have hck := hcl k hlt
      obtain ⟨p, hp, hpm, hsh⟩ := memb_mem.1 (nth_mem (xs := memb (shP S A n) m) (k := k) (by rw [HLL.out]; exact hlt))
      rw [hp] at hck
      obtain ⟨hx0, hag⟩ := shP_iff hsh
      rw [HST.out] at hx0
      have HAG := Lib.hid (show ∀ i, i < n → (nth (row S i) p == nth (row S s0) p) = hasI A i from fun i hi => by rw [← HST.out]; exact hag i hi)
      have hirs := HIRS.out
      obtain ⟨bs, os, rfl, hcc⟩ := Ints.at hirs (by omega)
      have hcx := hcc p hpm
      generalize nth (row S s0) p = x at *
      have d1 : decide (x < 0) = false := by simpa using hx0
      have d2 : decide ((p : Int) < 0) = false := by simp
      have d3 : decide ((m : Int) ≤ (p : Int)) = false := by simp; omega
      have d4 : decide (m ≤ p) = false := by simp; omega
      clear hcl hp hsh hag hcc hirs
      go_wp2_with (fail)
      go_loopw [83] (fun iv wr => ∃ (i q : Nat), i ≤ n ∧ iv = .int .i64 i ∧ wr = W4.drewN q) (fun iv _ => n - (intOf iv).toNat)
      case atStart => exact ⟨0, q, by omega, rfl, rfl⟩
      case round =>
        obtain ⟨i, q1, hi, rfl, hwr⟩ := hrel
        by_cases hil : i < n
        · obtain ⟨ar, nr, cr, hcr, hIr⟩ := HC1.out i hil
          obtain rfl : m = nr := by rw [← hIr.len]; exact (OK.out.row_len (by rw [HL.out]; exact hil)).symm
          obtain ⟨be, oe, rfl, hce⟩ := Ints.at hIr (by omega)
          have hu := HAG.out i hil
          have c1 : wr.cell? ⟨b1, o1 + i, none⟩ = some (.slice (some ⟨be, oe, none⟩) m cr) := by rw [hwr]; exact hcr
          have c2 : wr.cell? ⟨be, oe + p, none⟩ = some (.int .i64 (nth (row S i) p)) := by rw [hwr]; exact hce p hpm
          have c3 : wr.cell? ⟨ba, oa, none⟩ = some (.int .i64 s0) := by rw [hwr]; exact hca0
          have c4 : wr.cell? ⟨b1, o1 + s0, none⟩ = some (.slice (some ⟨bs, os, none⟩) m crs) := by rw [hwr]; exact hcrs
          have c5 : wr.cell? ⟨bs, os + p, none⟩ = some (.int .i64 x) := by rw [hwr]; exact hcx
          have H27 := fun q => contains27q (some ⟨ba, oa, none⟩) na ca A i (wr.drewN q) (by rw [hwr]; exact IA.out.drewN.drewN)
          have HW := Lib.hid hwr
          generalize nth (row S i) p = u at *
          generalize hasI A i = tt at *
          have H27 := Lib.hid H27
          clear hcr hIr hce hwr
          go_wp2_with (fail)
          go_quiet ((go_at_call 27; exact Calls.quiet_of (H27.out _)))
          go_wp2_with (fail)
          go_roundw
          case rel => exact ⟨i + 1, _, by omega, by go_num, by rw [HW.out, drewN2]⟩
          case measure => simp [intOf]; omega
        · subst hwr
          go_wp2_with (fail)
          go_roundw
          case rel => exact ⟨k + 1, _, by omega, by go_num, rfl⟩
          case measure => simp [intOf]; omega
    · have HC37 := contf36 (hasI B) (some ⟨ba, oa, none⟩) na ca A 37 #[.pointer (some ⟨w2.heap.size, 0, none⟩)] (W4.drewN q) IA.out.drewN (enters_of Try.func37 (by kernel_rfl) rfl) (by
        rintro q' x v hx ⟨rfl, _⟩
        exact has37 _ ab nb cb B x _ hcb IB.out.drewN.drewN)
      have HC38 := fun q => contf36 (hasI (memb (shP S B n) m)) al nl cl (memb (shP S A n) m) 38 #[.pointer (some ⟨w4.heap.size, 0, none⟩)] (W4.drewN q) IL.out.drewN (enters_of Try.func38 (by kernel_rfl) rfl) (by
        rintro q' x v hx ⟨rfl, _⟩
        exact has38 _ am nm cm _ x _ hcm IM2.out.drewN.drewN)
      have H20 := fun q => equal20 (some ⟨ba, oa, none⟩) ab na nb ca cb A B (W4.drewN q) IA.out.drewN IB.out.drewN
      cases hcom : A.any (hasI B)
      · rw [hcom] at HC37
        have HC37 := Lib.hid HC37
        clear HC38 H20 hcom
        go_wp2_with (fail)
        refine (HC37.out).mono ?_
        rintro e w5 ⟨rfl, q5, rfl⟩
        go_wp2_with (fail)
        refine (awake12 _).mono ?_
        rintro e w9 ⟨rfl, k9⟩
        go_wp2_with (fail)
        go_ret
        exact ⟨rfl, bstep B4.out (bstep (bdrewN _ _) k9)⟩
      · rw [hcom] at HC37
        have HC37 := Lib.hid HC37
        cases heq : eqL A B
        · rw [AP.out hcom heq] at HC38
          rw [heq] at H20
          have HC38 := Lib.hid HC38
          have H20 := Lib.hid H20
          clear hcom heq
          go_wp2_with (fail)
          refine (HC37.out).mono ?_
          rintro e w5 ⟨rfl, q5, rfl⟩
          rw [drewN2]
          go_wp2_with (fail)
          refine (H20.out _).mono ?_
          rintro e w5 ⟨rfl, q6, rfl⟩
          rw [drewN2]
          go_wp2_with (fail)
          refine (HC38.out _).mono ?_
          rintro e w5 ⟨rfl, q7, rfl⟩
          rw [drewN2]
          go_wp2_with (fail)
          refine (awake12 _).mono ?_
          rintro e w9 ⟨rfl, k9⟩
          go_wp2_with (fail)
          go_ret
          exact ⟨rfl, bstep B4.out (bstep (bdrewN _ _) k9)⟩
        · rw [heq] at H20
          have H20 := Lib.hid H20
          clear HC38 hcom heq
          go_wp2_with (fail)
          refine (HC37.out).mono ?_
          rintro e w5 ⟨rfl, q5, rfl⟩
          rw [drewN2]
          go_wp2_with (fail)
          refine (H20.out _).mono ?_
          rintro e w5 ⟨rfl, q6, rfl⟩
          rw [drewN2]
          go_wp2_with (fail)
          refine (awake12 _).mono ?_
          rintro e w9 ⟨rfl, k9⟩
          go_wp2_with (fail)
          go_ret
          exact ⟨rfl, bstep B4.out (bstep (bdrewN _ _) k9)⟩

theorem law8 (a : Option Addr) (n c : Nat) (S : List (List Int)) (z1 z2 : Int) (w : World) (h : Rows2 w a n S) (hz : 0 ≤ z1 ∧ z1 ≤ 255) (hz' : 0 ≤ z2 ∧ z2 ≤ 255) :
    Calls Try.prog 8 #[.slice a n c, .int .u8 z1, .int .u8 z2] w fun e w' => e = .returned (.bool true) ∧ Below w.heap.size w w' := by
  have H21 := fine21 a n c S w h
  cases hF : fineB S
  · rw [hF] at H21
    have H21 := Lib.hid H21
    clear hF h
    go_enter Try.func8, Try.ntmps8
    go_wp2_with (fail)
    refine (H21.out).mono ?_
    rintro e w' ⟨rfl, q, rfl⟩
    go_wp2_with (fail)
    refine (awake12 _).mono ?_
    rintro e w9 ⟨rfl, k9⟩
    go_wp2_with (fail)
    go_ret
    exact ⟨rfl, bstep (bdrewN _ _) k9⟩
  · exact law8_ok a n c _ S z1 z2 w h hz hz' hF (chkS_ok (fineB_ok hF))

end Go.Proofs.Ytbcnbchpcbglhaa
