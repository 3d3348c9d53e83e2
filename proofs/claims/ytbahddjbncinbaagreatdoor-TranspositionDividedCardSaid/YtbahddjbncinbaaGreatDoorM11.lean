/-
  TranspositionDivided: the law.
-/
import Derived.Test.YtbahddjbncinbaaGreatDoorDv
namespace Go.Proofs.YtbahddjbncinbaaGreatDoor
open Go.RowKit Go.Ap Go.Shelf Go.Proofs

attribute [local go_sem] Oper.semAt_some bs_toList empty_toList bs_size bs_extract max4
set_option maxRecDepth 100000 in
set_option maxHeartbeats 8000000 in
theorem law11 (a1 : Option Addr) (n1 c1 : Nat) (xs : List Tok) (a2 : Option Addr) (n2 c2 : Nat) (ys : List Tok) (w : World) (h1 : Toks w a1 n1 xs) (h2 : Toks w a2 n2 ys) (hev : EV w) :
    Calls Tryz.prog 11 #[.slice a1 n1 c1, .slice a2 n2 c2] w fun e w' => e = .returned (.bool true) ∧ Below w.heap.size w w' := by
  obtain ⟨ir, hir, hr0, hr1, hr2⟩ := info_parts infoRw
  have HF := Lib.hid (fine22 (some ⟨w.heap.size, 0, none⟩) 2 2 [xs, ys] _ (fineTwo (c1 := c1) (c2 := c2) h1 h2) (hev.mono (Nat.le_refl _) (balloc _ _)))
  have HAW := Lib.hid (fun W (hb : Below w.heap.size w W) => awake13 W (hev.mono (Nat.le_refl _) hb))
  have HPP := Lib.hid (fun W (hb : Below w.heap.size w W) => PairsP xs ys a1 n1 c1 a2 n2 c2 W (h1.mono (Nat.le_refl _) hb) (h2.mono (Nat.le_refl _) hb) (hev.mono (Nat.le_refl _) hb))
  have HCP := Lib.hid (fun W (hb : Below w.heap.size w W) => ChainP2 xs ys a1 n1 c1 a2 n2 c2 W (h1.mono (Nat.le_refl _) hb) (h2.mono (Nat.le_refl _) hb) (hev.mono (Nat.le_refl _) hb))
  have HBP := Lib.hid (fun W (hb : Below w.heap.size w W) => BlocksP xs ys a1 n1 c1 a2 n2 c2 W (h1.mono (Nat.le_refl _) hb) (h2.mono (Nat.le_refl _) hb) (hev.mono (Nat.le_refl _) hb))
  have HDP := Lib.hid (fun W (hb : Below w.heap.size w W) => DistanceP xs ys a1 n1 c1 a2 n2 c2 W (h1.mono (Nat.le_refl _) hb) (h2.mono (Nat.le_refl _) hb) (hev.mono (Nat.le_refl _) hb))
  have hl1 := h1.len
  clear h1 h2 hev
  go_enter Tryz.func11, Tryz.ntmps11
  go_wp2_with (fail)
  refine HF.out.mono ?_
  rintro e w1 ⟨hf, hb⟩
  have HB1 := Lib.hid (bstep (balloc w _) hb)
  clear hb
  rcases hf with rfl | ⟨rfl, hf⟩
  · go_wp2_with (fail)
    refine (HAW.out _ HB1.out).mono ?_
    rintro e w2 ⟨rfl, hb⟩
    have HB2 := Lib.hid (bstep HB1.out hb)
    clear hb
    go_wp2_with (fail)
    go_ret
    exact ⟨rfl, HB2.out⟩
  · obtain ⟨k1, _, _⟩ := chk_fine hf
    have h10 : n1 ≤ 10 := by have := (hf xs (by simp)).1; omega
    have e1 : prsE xs ys = pairsL (keysT xs) (keysT ys) := by unfold prsE; rw [if_pos k1]
    have hll : (prsE xs ys).length ≤ 10 := by
      rw [e1]
      have := prsF_len (keysT xs) (keysT ys) (keysT xs).length
      rw [prsF_all, keysT_len] at this
      omega
    have HASC := Lib.hid (show (prsE xs ys).Pairwise fun p q => p.1 < q.1 by rw [e1]; exact pairs_asc _ _)
    have HOA := Lib.hid (show (outL (prsE xs ys)).Pairwise fun p q => p.1 < q.1 by rw [e1]; exact out_asc _ _)
    have HCE : chnE xs ys = inL (prsE xs ys) := rfl
    have HBE : bksE xs ys = blkF (outL (prsE xs ys)) := rfl
    have HSM := Lib.hid (show ∀ d ∈ bksE xs ys, 0 ≤ d.fst ∧ d.fst ≤ 1024 ∧ 0 ≤ d.snd ∧ d.snd ≤ 1024 from blkF_small (N := 1024) (fun p hp => by have := out_lt hp; omega))
    have HLN := Lib.hid (show ∀ d ∈ bksE xs ys, 1 ≤ d.len ∧ d.len ≤ (prsE xs ys).length from fun d hd => by
      have h1 := blkF_len (l := outL (prsE xs ys)) hd
      have h2 := in_out_len (prsE xs ys)
      omega)
    have hbl := blkF_count (outL (prsE xs ys))
    have hio := in_out_len (prsE xs ys)
    have HCPK := Lib.hid (fun W hb => HCP.out W hb k1)
    rw [k1] at HPP HBP HDP
    rw [HCE] at HCPK
    rw [HBE] at HBP HDP HSM HLN
    obtain ⟨l, hll2⟩ : ∃ l, prsE xs ys = l := ⟨_, rfl⟩
    rw [hll2] at HPP HCPK HBP HDP HSM HLN HASC HOA hll hbl hio
    have HNX := Lib.hid (fun i d e h1 h2 => blkF_next HOA.out (i := i) (d := d) (e := e) h1 h2)
    have HSP := Lib.hid (fun ps hp hs => sorted_pairs HASC.out (ps := ps) hp hs)
    have HTOT := Lib.hid (show ((inL l).map pairI).length + ((blkF (outL l)).flatMap expB).length = l.length by rw [blkF_exp, List.length_map, List.length_map]; exact hio)
    obtain ⟨K, hK⟩ : ∃ K, blkF (outL l) = K := ⟨_, rfl⟩
    obtain ⟨C, hC⟩ : ∃ C, inL l = C := ⟨_, rfl⟩
    rw [hK] at HBP HDP HSM HLN HNX HSP HTOT hbl
    rw [hC] at HCPK HSP HTOT hio
    clear hf k1 e1 hll2 HCE HBE hK hC HCP
    go_wp2_with (fail)
    refine (HPP.out _ HB1.out).mono ?_
    rintro e w2 ⟨v, rfl, ho, hb⟩
    obtain ⟨ap, cp, rfl, hr⟩ := ho.rows (by rw [rowsP_len]; omega) rows_two
    rw [rowsP_len] at hr ⊢
    have HRP := Lib.hid hr
    have HX2 := Lib.hid hb
    have HB2 := Lib.hid (bstep HB1.out hb)
    clear ho hb hr
    go_wp2_with (fail)
    refine (HCPK.out _ HB2.out).mono ?_
    rintro e w3 ⟨ac, cc, rfl, hr, hsh, hb⟩
    have HRC := Lib.hid hr
    have HSH := Lib.hid hsh
    have HX3 := Lib.hid hb
    have HB3 := Lib.hid (bstep HB2.out hb)
    clear hb hr hsh
    go_wp2_with (fail)
    refine (HBP.out _ HB3.out).mono ?_
    rintro e w4 ⟨v, rfl, ho, hb⟩
    obtain ⟨ab, cb, rfl, hr⟩ := ho.blks (by omega)
    have HRB := Lib.hid hr
    have HX4 := Lib.hid hb
    have HB4 := Lib.hid (bstep HB3.out hb)
    clear ho hb hr
    go_wp2_with (fail)
    refine (HDP.out _ HB4.out).mono ?_
    rintro e w5 ⟨rfl, hb⟩
    have HX5 := Lib.hid hb
    have HB5 := Lib.hid (bstep HB4.out hb)
    have HRP := Lib.hid (HRP.out.mono (Nat.le_refl _) (bstep (bstep HX3.out HX4.out) HX5.out))
    have HRB := Lib.hid (blks_mono HRB.out (Nat.le_refl _) HX5.out)
    have HCL := Lib.hid (cloneRows w5 ac C.length cc C (HRC.out.mono (Nat.le_refl _) (bstep HX4.out HX5.out)) (by omega) HSH.out)
    obtain ⟨n, hn⟩ : ∃ n, l.length = n := ⟨_, rfl⟩
    obtain ⟨nb, hnb⟩ : ∃ nb, K.length = nb := ⟨_, rfl⟩
    obtain ⟨nc, hnc⟩ : ∃ nc, C.length = nc := ⟨_, rfl⟩
    rw [hn] at HRP HLN HTOT hll ⊢
    rw [hnb] at HRB hbl ⊢
    rw [hnc] at HCL ⊢
    have HN := Lib.hid hn
    have HNB := Lib.hid hnb
    have dn : ((nb : Int) != (nb : Int)) = false := by simp
    have dn' : ((nb : Int) == (nb : Int)) = true := by simp
    clear hb hn hnb hnc hio
    go_wp2_with (fail)
    refine HCL.out.mono ?_
    rintro e w6 ⟨va, rfl, ho, hb⟩
    obtain ⟨aa, ca, rfl⟩ := ho.slice
    have HX6 := Lib.hid hb
    have HO6 := Lib.hid ho
    have HB6 := Lib.hid (bstep HB5.out hb)
    have hnbs : nb ≤ 1024 := by have := in_out_len l; rw [HN.out] at this; omega
    clear ho hb
    go_wp2_with (fail)
    go_loopw [13, 63] (fun av iv wr => ∃ i : Nat, i ≤ nb ∧ iv = .int .i64 i ∧ AllO w5.heap.size wr av (C.map pairI ++ (K.take i).flatMap expB) ∧ Below w5.heap.size w5 wr) (fun _ iv _ => nb - (intOf iv).toNat)
    case atStart => exact ⟨0, Nat.zero_le _, rfl, by simpa using HO6.out, HX6.out⟩
    case round =>
      obtain ⟨wi, rfl⟩ : ∃ wi : World, wi = wr := ⟨_, rfl⟩
      obtain ⟨i, hi, rfl, ho, hb⟩ := hrel
      have HBI := Lib.hid hb
      by_cases hin : i < nb
      · obtain ⟨x, b, o, hx, rfl, x0, x1, x2⟩ := (blks_mono HRB.out (Nat.le_refl _) hb).at hin
        have hsm := HSM.out x (List.mem_of_getElem? hx)
        have hln := HLN.out x (List.mem_of_getElem? hx)
        have hfl := flat_le hx
        have hTT := HTOT.out
        have hkt : (K.take (i + 1)).flatMap expB = (K.take i).flatMap expB ++ expB x := by rw [List.take_add_one, hx, List.flatMap_append]; simp
        rw [expB_len] at hfl
        have HTK := Lib.hid (fun t h => expB_take x t h)
        have hel : ∀ t : Nat, (t : Int) ≤ x.len → ((expB x).take t).length = t := fun t ht => by rw [List.length_take, expB_len]; omega
        have HEL := Lib.hid hel
        have HKT := Lib.hid hkt
        have HHX := Lib.hid hx
        obtain ⟨fst, snd, len⟩ := x
        simp only at x0 x1 x2 hsm hln hfl HTK HEL
        obtain ⟨s0, s1, s2, s3⟩ := hsm
        obtain ⟨l0, l1⟩ := hln
        obtain ⟨EX, hEX⟩ : ∃ EX, expB ⟨fst, snd, len⟩ = EX := ⟨_, rfl⟩
        rw [hEX] at HTK HEL HKT
        have HALL := Lib.hid (show (EX.length : Int) = len by rw [← hEX, expB_len]; simp only; omega)
        have hbx := balloc wi (.cells #[.int .i64 fst, .int .i64 snd, .int .i64 len] 54)
        have hk0 := BlkK.new wi #[.int .i64 fst, .int .i64 snd, .int .i64 len] 54
        have k0 := hk0.cell (i := 0) (u := .int .i64 fst) rfl
        have k1 := hk0.cell (i := 1) (u := .int .i64 snd) rfl
        have k2 := hk0.cell (i := 2) (u := .int .i64 len) rfl
        obtain ⟨W3, hW3⟩ : ∃ W3, wi.alloc (.cells #[.int .i64 fst, .int .i64 snd, .int .i64 len] 54) = W3 := ⟨_, rfl⟩
        obtain ⟨X, hX⟩ : ∃ X, wi.heap.size = X := ⟨_, rfl⟩
        rw [hW3] at hbx hk0
        rw [hX] at hk0
        have HO := Lib.hid (ho.below hbx)
        have HB3' := Lib.hid (bstep hb hbx)
        have HKB := Lib.hid hk0
        have HK0 := Lib.hid (hk0.cell (i := 0) (u := .int .i64 fst) rfl)
        have HK1 := Lib.hid (hk0.cell (i := 1) (u := .int .i64 snd) rfl)
        have HK2 := Lib.hid (hk0.cell (i := 2) (u := .int .i64 len) rfl)
        have HV2 := Lib.hid hW3
        have HX2' := Lib.hid hX
        have i1 : (i : Int) < (nb : Int) := by omega
        clear ho hx hkt hel hEX hk0 hW3 hX
        go_wp2_with (fail)
        rw [HV2.out, HX2'.out]
        clear k0 k1 k2
        have d0 : decide (len < 1) = false := by rw [decide_eq_false_iff_not]; omega
        have d1 : decide ((n : Int) < len) = false := by rw [decide_eq_false_iff_not]; omega
        rcases Nat.eq_zero_or_pos i with h0 | h0
        · have p0 : decide ((0 : Int) < (i : Int)) = false := by rw [decide_eq_false_iff_not]; omega
          have p0' : decide (0 < i) = false := by rw [decide_eq_false_iff_not]; omega
          clear h0
          refine (wpIn_wide (n := 20)).1 ?_
          refine wpIn_region_planN (fun W' => Below W3.heap.size W3 W') (.take 0 <| .take 1 <| .take 2 <| .take 3 <| .take 4 <| .take 5 <| .take 6 <| .take 7 <| .take 8 <| .take 9 <| .take 10 <| .take 11 <| .take 12 <| .take 13 <| .take 14 <| .take 15 <| .take 16 <| .take 17 <| .take 18 <| .take 19 <| .take 20 <| .take 21 <| .take 22 <| .take 23 <| .take 24 <| .take 25 <| .take 26 <| .take 27 <| .take 28 <| .take 29 <| .take 30 <| .take 31 <| .take 32 <| .take 33 <| .take 34 <| .take 35 <| .take 36 <| .take 37 <| .take 38 <| .take 39 <| .take 40 <| .take 41 <| .take 42 <| .take 43 <| .take 44 <| .take 45 <| .take 46 <| .take 47 <| .take 48 <| .take 49 <| .take 50 <| .take 51 <| .take 52 <| .take 53 <| .take 54 <| .take 55 <| .take 56 <| .take 57 <| .take 58 <| .take 59 <| .take 60 .fin) (fun _ => trivial) (by kernel_rfl) (by kernel_rfl) (show Below _ W3 _ from bdrewN _ 1) ?_
          apply plan_take rfl rfl (by rfl)
          case hy =>
            rintro W' hb'
            clear hb'
            go_simp
            first | done | with_reducible rfl
          simp only [List.setIfInBounds_toArray, List.set_cons_zero, List.set_cons_succ]
          apply plan_take rfl rfl (by rfl)
          case hy =>
            rintro W' hb'
            have e0 := cell_keep hb' HK0.out
            have e1 := cell_keep hb' HK1.out
            have e2 := cell_keep hb' HK2.out
            clear hb'
            go_simp
            first | done | with_reducible rfl
          simp only [List.setIfInBounds_toArray, List.set_cons_zero, List.set_cons_succ]
          apply plan_take rfl rfl (by rfl)
          case hy =>
            rintro W' hb'
            clear hb'
            go_simp
            first | done | with_reducible rfl
          simp only [List.setIfInBounds_toArray, List.set_cons_zero, List.set_cons_succ]
          apply plan_take rfl rfl (by rfl)
          case hy =>
            rintro W' hb'
            clear hb'
            go_simp
            first | done | with_reducible rfl
          simp only [List.setIfInBounds_toArray, List.set_cons_zero, List.set_cons_succ]
          apply plan_gd (j := 3) (t := 71) (b := false) (c := false) rfl rfl rfl rfl rfl (by simp) rfl
          case hy =>
            rintro W' hb'
            clear hb'
            go_simp
            first | done | with_reducible rfl
          simp only [List.setIfInBounds_toArray, List.set_cons_zero, List.set_cons_succ]
          apply plan_gd (j := 3) (t := 71) (b := false) (c := false) rfl rfl rfl rfl rfl (by simp) rfl
          case hy =>
            rintro W' hb'
            have e0 := cell_keep hb' HK0.out
            have e1 := cell_keep hb' HK1.out
            have e2 := cell_keep hb' HK2.out
            clear hb'
            go_simp
            first | done | with_reducible rfl
          simp only [List.setIfInBounds_toArray, List.set_cons_zero, List.set_cons_succ]
          apply plan_gd (j := 3) (t := 71) (b := false) (c := false) rfl rfl rfl rfl rfl (by simp) rfl
          case hy =>
            rintro W' hb'
            clear hb'
            go_simp
            first | done | with_reducible rfl
          simp only [List.setIfInBounds_toArray, List.set_cons_zero, List.set_cons_succ]
          apply plan_gd (j := 3) (t := 71) (b := false) (c := false) rfl rfl rfl rfl rfl (by simp) rfl
          case hy =>
            rintro W' hb'
            clear hb'
            go_simp
            first | done | with_reducible rfl
          simp only [List.setIfInBounds_toArray, List.set_cons_zero, List.set_cons_succ]
          apply plan_gd (j := 3) (t := 71) (b := false) (c := false) rfl rfl rfl rfl rfl (by simp) rfl
          case hy =>
            rintro W' hb'
            clear hb'
            go_simp
            first | done | with_reducible rfl
          simp only [List.setIfInBounds_toArray, List.set_cons_zero, List.set_cons_succ]
          apply plan_take rfl rfl (by rfl)
          case hy =>
            rintro W' hb'
            clear hb'
            go_simp
            first | done | with_reducible rfl
          simp only [List.setIfInBounds_toArray, List.set_cons_zero, List.set_cons_succ]
          apply plan_take rfl rfl (by rfl)
          case hy =>
            rintro W' hb'
            clear hb'
            go_simp
            first | done | with_reducible rfl
          simp only [List.setIfInBounds_toArray, List.set_cons_zero, List.set_cons_succ]
          apply plan_gd (j := 10) (t := 78) (b := false) (c := false) rfl rfl rfl rfl rfl (by simp) rfl
          case hy =>
            rintro W' hb'
            clear hb'
            go_simp
            first | done | with_reducible rfl
          simp only [List.setIfInBounds_toArray, List.set_cons_zero, List.set_cons_succ]
          apply plan_gd (j := 10) (t := 78) (b := false) (c := false) rfl rfl rfl rfl rfl (by simp) rfl
          case hy =>
            rintro W' hb'
            clear hb'
            go_simp
            first | done | with_reducible rfl
          simp only [List.setIfInBounds_toArray, List.set_cons_zero, List.set_cons_succ]
          apply plan_gd (j := 10) (t := 78) (b := false) (c := false) rfl rfl rfl rfl rfl (by simp) rfl
          case hy =>
            rintro W' hb'
            clear hb'
            go_simp
            first | done | with_reducible rfl
          simp only [List.setIfInBounds_toArray, List.set_cons_zero, List.set_cons_succ]
          apply plan_no (j := 13) (t := 81) (b := false) (c := true) rfl rfl rfl rfl rfl (by simp) rfl
          simp only [List.setIfInBounds_toArray, List.set_cons_zero, List.set_cons_succ]
          apply plan_no (j := 13) (t := 81) (b := false) (c := true) rfl rfl rfl rfl rfl (by simp) rfl
          simp only [List.setIfInBounds_toArray, List.set_cons_zero, List.set_cons_succ]
          apply plan_no (j := 13) (t := 81) (b := false) (c := true) rfl rfl rfl rfl rfl (by simp) rfl
          simp only [List.setIfInBounds_toArray, List.set_cons_zero, List.set_cons_succ]
          apply plan_no (j := 13) (t := 81) (b := false) (c := true) rfl rfl rfl rfl rfl (by simp) rfl
          simp only [List.setIfInBounds_toArray, List.set_cons_zero, List.set_cons_succ]
          apply plan_no (j := 13) (t := 81) (b := false) (c := true) rfl rfl rfl rfl rfl (by simp) rfl
          simp only [List.setIfInBounds_toArray, List.set_cons_zero, List.set_cons_succ]
          apply plan_no (j := 13) (t := 81) (b := false) (c := true) rfl rfl rfl rfl rfl (by simp) rfl
          simp only [List.setIfInBounds_toArray, List.set_cons_zero, List.set_cons_succ]
          apply plan_no (j := 13) (t := 81) (b := false) (c := true) rfl rfl rfl rfl rfl (by simp) rfl
          simp only [List.setIfInBounds_toArray, List.set_cons_zero, List.set_cons_succ]
          apply plan_no (j := 13) (t := 81) (b := false) (c := true) rfl rfl rfl rfl rfl (by simp) rfl
          simp only [List.setIfInBounds_toArray, List.set_cons_zero, List.set_cons_succ]
          apply plan_no (j := 13) (t := 81) (b := false) (c := true) rfl rfl rfl rfl rfl (by simp) rfl
          simp only [List.setIfInBounds_toArray, List.set_cons_zero, List.set_cons_succ]
          apply plan_no (j := 13) (t := 81) (b := false) (c := true) rfl rfl rfl rfl rfl (by simp) rfl
          simp only [List.setIfInBounds_toArray, List.set_cons_zero, List.set_cons_succ]
          apply plan_un (j := 23) (t := 91) rfl rfl rfl rfl rfl (by simp)
          simp only [List.setIfInBounds_toArray, List.set_cons_zero, List.set_cons_succ]
          apply plan_un (j := 23) (t := 91) rfl rfl rfl rfl rfl (by simp)
          simp only [List.setIfInBounds_toArray, List.set_cons_zero, List.set_cons_succ]
          apply plan_un (j := 23) (t := 91) rfl rfl rfl rfl rfl (by simp)
          simp only [List.setIfInBounds_toArray, List.set_cons_zero, List.set_cons_succ]
          apply plan_un (j := 23) (t := 91) rfl rfl rfl rfl rfl (by simp)
          simp only [List.setIfInBounds_toArray, List.set_cons_zero, List.set_cons_succ]
          apply plan_un (j := 23) (t := 91) rfl rfl rfl rfl rfl (by simp)
          simp only [List.setIfInBounds_toArray, List.set_cons_zero, List.set_cons_succ]
          apply plan_un (j := 23) (t := 91) rfl rfl rfl rfl rfl (by simp)
          simp only [List.setIfInBounds_toArray, List.set_cons_zero, List.set_cons_succ]
          apply plan_un (j := 23) (t := 91) rfl rfl rfl rfl rfl (by simp)
          simp only [List.setIfInBounds_toArray, List.set_cons_zero, List.set_cons_succ]
          apply plan_un (j := 23) (t := 91) rfl rfl rfl rfl rfl (by simp)
          simp only [List.setIfInBounds_toArray, List.set_cons_zero, List.set_cons_succ]
          apply plan_un (j := 23) (t := 91) rfl rfl rfl rfl rfl (by simp)
          simp only [List.setIfInBounds_toArray, List.set_cons_zero, List.set_cons_succ]
          apply plan_un (j := 23) (t := 91) rfl rfl rfl rfl rfl (by simp)
          simp only [List.setIfInBounds_toArray, List.set_cons_zero, List.set_cons_succ]
          apply plan_un (j := 23) (t := 91) rfl rfl rfl rfl rfl (by simp)
          simp only [List.setIfInBounds_toArray, List.set_cons_zero, List.set_cons_succ]
          apply plan_un (j := 23) (t := 91) rfl rfl rfl rfl rfl (by simp)
          simp only [List.setIfInBounds_toArray, List.set_cons_zero, List.set_cons_succ]
          apply plan_un (j := 23) (t := 91) rfl rfl rfl rfl rfl (by simp)
          simp only [List.setIfInBounds_toArray, List.set_cons_zero, List.set_cons_succ]
          apply plan_un (j := 23) (t := 91) rfl rfl rfl rfl rfl (by simp)
          simp only [List.setIfInBounds_toArray, List.set_cons_zero, List.set_cons_succ]
          apply plan_un (j := 23) (t := 91) rfl rfl rfl rfl rfl (by simp)
          simp only [List.setIfInBounds_toArray, List.set_cons_zero, List.set_cons_succ]
          apply plan_un (j := 23) (t := 91) rfl rfl rfl rfl rfl (by simp)
          simp only [List.setIfInBounds_toArray, List.set_cons_zero, List.set_cons_succ]
          apply plan_un (j := 23) (t := 91) rfl rfl rfl rfl rfl (by simp)
          simp only [List.setIfInBounds_toArray, List.set_cons_zero, List.set_cons_succ]
          apply plan_un (j := 40) (t := 108) rfl rfl rfl rfl rfl (by simp)
          simp only [List.setIfInBounds_toArray, List.set_cons_zero, List.set_cons_succ]
          apply plan_un (j := 40) (t := 108) rfl rfl rfl rfl rfl (by simp)
          simp only [List.setIfInBounds_toArray, List.set_cons_zero, List.set_cons_succ]
          apply plan_un (j := 40) (t := 108) rfl rfl rfl rfl rfl (by simp)
          simp only [List.setIfInBounds_toArray, List.set_cons_zero, List.set_cons_succ]
          apply plan_un (j := 40) (t := 108) rfl rfl rfl rfl rfl (by simp)
          simp only [List.setIfInBounds_toArray, List.set_cons_zero, List.set_cons_succ]
          apply plan_un (j := 40) (t := 108) rfl rfl rfl rfl rfl (by simp)
          simp only [List.setIfInBounds_toArray, List.set_cons_zero, List.set_cons_succ]
          apply plan_un (j := 40) (t := 108) rfl rfl rfl rfl rfl (by simp)
          simp only [List.setIfInBounds_toArray, List.set_cons_zero, List.set_cons_succ]
          apply plan_un (j := 40) (t := 108) rfl rfl rfl rfl rfl (by simp)
          simp only [List.setIfInBounds_toArray, List.set_cons_zero, List.set_cons_succ]
          apply plan_un (j := 40) (t := 108) rfl rfl rfl rfl rfl (by simp)
          simp only [List.setIfInBounds_toArray, List.set_cons_zero, List.set_cons_succ]
          apply plan_un (j := 40) (t := 108) rfl rfl rfl rfl rfl (by simp)
          simp only [List.setIfInBounds_toArray, List.set_cons_zero, List.set_cons_succ]
          apply plan_un (j := 40) (t := 108) rfl rfl rfl rfl rfl (by simp)
          simp only [List.setIfInBounds_toArray, List.set_cons_zero, List.set_cons_succ]
          apply plan_un (j := 40) (t := 108) rfl rfl rfl rfl rfl (by simp)
          simp only [List.setIfInBounds_toArray, List.set_cons_zero, List.set_cons_succ]
          apply plan_un (j := 40) (t := 108) rfl rfl rfl rfl rfl (by simp)
          simp only [List.setIfInBounds_toArray, List.set_cons_zero, List.set_cons_succ]
          apply plan_un (j := 40) (t := 108) rfl rfl rfl rfl rfl (by simp)
          simp only [List.setIfInBounds_toArray, List.set_cons_zero, List.set_cons_succ]
          apply plan_un (j := 40) (t := 108) rfl rfl rfl rfl rfl (by simp)
          simp only [List.setIfInBounds_toArray, List.set_cons_zero, List.set_cons_succ]
          apply plan_un (j := 40) (t := 108) rfl rfl rfl rfl rfl (by simp)
          simp only [List.setIfInBounds_toArray, List.set_cons_zero, List.set_cons_succ]
          apply plan_un (j := 40) (t := 108) rfl rfl rfl rfl rfl (by simp)
          simp only [List.setIfInBounds_toArray, List.set_cons_zero, List.set_cons_succ]
          apply plan_un (j := 23) (t := 91) rfl rfl rfl rfl rfl (by simp)
          simp only [List.setIfInBounds_toArray, List.set_cons_zero, List.set_cons_succ]
          apply plan_no (j := 13) (t := 81) (b := false) (c := true) rfl rfl rfl rfl rfl (by simp) rfl
          simp only [List.setIfInBounds_toArray, List.set_cons_zero, List.set_cons_succ]
          apply plan_gd (j := 10) (t := 78) (b := false) (c := false) rfl rfl rfl rfl rfl (by simp) rfl
          case hy =>
            rintro W' hb'
            clear hb'
            go_simp
            first | done | with_reducible rfl
          simp only [List.setIfInBounds_toArray, List.set_cons_zero, List.set_cons_succ]
          apply plan_take rfl rfl (by rfl)
          case hy =>
            rintro W' hb'
            clear hb'
            go_simp
            first | done | with_reducible rfl
          simp only [List.setIfInBounds_toArray, List.set_cons_zero, List.set_cons_succ]
          refine plan_fin ?_
          gi_wp2_with (fail)
          have k0 := cell_keep (bdrewN W3 1) HK0.out
          have k1 := cell_keep (bdrewN W3 1) HK1.out
          have k2 := cell_keep (bdrewN W3 1) HK2.out
          replace k0 : W3.drew.cell? ⟨X, 0, none⟩ = some (.int .i64 fst) := k0
          replace k1 : W3.drew.cell? ⟨X, 1, none⟩ = some (.int .i64 snd) := k1
          replace k2 : W3.drew.cell? ⟨X, 2, none⟩ = some (.int .i64 len) := k2
          go_wp2_with (fail)
          go_loopw [13, 131] (fun av jv wr => ∃ t : Nat, (t : Int) ≤ len ∧ jv = .int .i64 t ∧ AllO w5.heap.size wr av ((C.map pairI ++ (K.take i).flatMap expB) ++ EX.take t) ∧ BlkK wr X #[.int .i64 fst, .int .i64 snd, .int .i64 len] 54 ∧ Below w5.heap.size w5 wr) (fun _ jv _ => len.toNat - (intOf jv).toNat)
          case atStart => exact ⟨0, by omega, rfl, by rw [List.take_zero, List.append_nil]; exact HO.out.below (bdrewN W3 1), HKB.out.below (bdrewN W3 1), bstep HB3'.out (bdrewN W3 1)⟩
          case round =>
            obtain ⟨wk, rfl⟩ : ∃ wk : World, wk = wr := ⟨_, rfl⟩
            obtain ⟨t, ht, rfl, ho, hbk, hb⟩ := hrel
            have HBK := Lib.hid hb
            have HKK := Lib.hid hbk
            have hsz := hb.size
            clear k0 k1 k2
            have k0 := hbk.cell (i := 0) (u := .int .i64 fst) rfl
            have k1 := hbk.cell (i := 1) (u := .int .i64 snd) rfl
            have k2 := hbk.cell (i := 2) (u := .int .i64 len) rfl
            by_cases htl : (t : Int) < len
            · have hbo := balloc wk (.cells #[.int .i64 (fst + (t : Int)), .int .i64 (snd + (t : Int))] 3)
              have hnw := BlkK.new wk #[.int .i64 (fst + (t : Int)), .int .i64 (snd + (t : Int))] 3
              obtain ⟨vs, hrow, hnx⟩ := ho.ready hsz hbo (p := (fst + (t : Int), snd + (t : Int))) (u := .slice (some ⟨wk.heap.size, 0, none⟩) 2 2) ⟨wk.heap.size, 0, 2, rfl, hnw.cell (i := 0) rfl, hnw.cell (i := 1) rfl, ⟨by simp only; omega, by simp only; omega⟩, ⟨by simp only; omega, by simp only; omega⟩, .inr ⟨_, _, hnw⟩⟩
              obtain ⟨N, hNN⟩ : ∃ N, ((C.map pairI ++ (K.take i).flatMap expB) ++ EX.take t).length = N := ⟨_, rfl⟩
              have hNb : N ≤ 1024 := by rw [← hNN, List.length_append, List.length_append, HEL.out t ht]; omega
              rw [hNN] at hrow hnx
              have HROW := Lib.hid hrow
              have HNXT := Lib.hid hnx
              have HTS := Lib.hid (HTK.out t htl)
              have HNEW := Lib.hid (show ∀ (j : Nat) (u : Value), [Value.slice (some ⟨wk.heap.size, 0, none⟩) 2 2][j]? = some u → ((wk.alloc (.cells #[.int .i64 (fst + (t : Int)), .int .i64 (snd + (t : Int))] 3)).alloc (.cells #[.slice (some ⟨wk.heap.size, 0, none⟩) 2 2] 29)).cell? ((⟨wk.heap.size + 1, 0, none⟩ : Addr).add j) = some u from World.news_of_block (cs := #[.slice (some ⟨wk.heap.size, 0, none⟩) 2 2]) (heap_fresh (by simp)))
              have HB5K := Lib.hid (bstep hb hbo)
              have HKO := Lib.hid (hbk.below hbo)
              have wf : IntKind.i64.wrap (fst + (t : Int)) = fst + (t : Int) := IntWalk.i64_in _ (by omega)
              have ws : IntKind.i64.wrap (snd + (t : Int)) = snd + (t : Int) := IntWalk.i64_in _ (by omega)
              have dj : decide ((t : Int) < len) = true := decide_eq_true htl
              have HJ := Lib.hid htl
              obtain ⟨av', ac', hav⟩ := ho.slice
              cases hav
              rw [hNN]
              rw [hNN] at HROW HNXT
              clear hrow hnx hNN hbo hnw ho hb hbk htl
              go_wp2_with (at_builtin; refine wpList_append_own _ rfl _ _ 25 rfl w5.heap.size 29 ir (.slice none 0 0) 1 24 Tryz.underlying25 hir hr0 hr1 hr2 rfl (by decide) _ _ _ rfl (HROW.out.alloc _) ⟨wk.heap.size + 1, 0, none⟩ 1 1 [.slice (some ⟨wk.heap.size, 0, none⟩) 2 2] rfl rfl HNEW.out (by simp [Value.oneCell']) (by unfold maxLen; omega) (by omega) (by simp; omega) ?_; intro v1 w7 hown1 hgrow1 _; have HO7 := Lib.hid hown1; have HG := Lib.hid hgrow1; clear hown1 hgrow1)
              obtain ⟨j1, j2⟩ := HNXT.out _ _ _ HO7.out HG.out
              have j3 := (HKO.out.below (balloc _ _)).keptE HG.out (HKO.out.apart HROW.out (by decide))
              go_roundw
              case rel => exact ⟨t + 1, by have := HJ.out; omega, by simp, by rw [HTS.out, ← List.append_assoc]; exact j1, j3, HB5K.out.trans j2⟩
              case measure => have := HJ.out; simp [intOf]; omega
            · have hte : (t : Int) = len := by omega
              have dj : decide ((t : Int) < len) = false := decide_eq_false htl
              have hoe := ho
              rw [show EX.take t = EX from List.take_of_length_le (by have := HALL.out; omega), List.append_assoc, ← HKT.out] at hoe
              have HOE := Lib.hid hoe
              clear ho hb hbk hte htl hoe
              go_wp2_with (fail)
              go_roundw
              case rel => exact ⟨i + 1, by omega, by simp, HOE.out, HBK.out⟩
              case measure => simp [intOf]; omega
        · obtain ⟨i', hi'⟩ : ∃ i', i = i' + 1 := ⟨i - 1, by omega⟩
          have p0 : decide ((0 : Int) < (i : Int)) = true := by rw [decide_eq_true_eq]; omega
          have p0' : decide (0 < i) = true := by rw [decide_eq_true_eq]; omega
          obtain ⟨y, b', o', hy, he', y0, y1, y2⟩ := (blks_mono HRB.out (Nat.le_refl _) HB3'.out).at (show i' < nb by omega)
          cases he'
          have hap := HNX.out i' y _ hy (by rw [← hi']; exact HHX.out)
          have hsy := HSM.out y (List.mem_of_getElem? hy)
          have hly := HLN.out y (List.mem_of_getElem? hy)
          obtain ⟨yf, ys, yl⟩ := y
          simp only [ApartB] at hap
          simp only at y0 y1 y2 hsy hly
          have HJ0 := Lib.hid y0
          have HJ1 := Lib.hid y1
          have HJ2 := Lib.hid y2
          have d2 : decide (fst ≤ yf) = false := by rw [decide_eq_false_iff_not]; omega
          have w1 : IntKind.i64.wrap (yf + yl) = yf + yl := IntWalk.i64_in _ (by omega)
          have w2 : IntKind.i64.wrap (ys + yl) = ys + yl := IntWalk.i64_in _ (by omega)
          have w3 : IntKind.i64.wrap ((i : Int) - 1) = (i' : Int) := by rw [show (i : Int) - 1 = (i' : Int) by omega]; exact IntWalk.i64_in _ (by omega)
          have i2 : (i' : Int) < (nb : Int) := by omega
          by_cases e1 : fst = yf + yl
          · have d3 : (fst == yf + yl) = true := by rw [beq_iff_eq]; exact e1
            have d4 : (snd == ys + yl) = false := by rw [beq_eq_false_iff_ne]; intro e2; exact hap.2 ⟨e1, e2⟩
            clear hap hsy hly y0 y1 y2 hy h0 hi' e1
            refine (wpIn_wide (n := 20)).1 ?_
            refine wpIn_region_planN (fun W' => Below W3.heap.size W3 W') (.take 0 <| .take 1 <| .take 2 <| .take 3 <| .take 4 <| .take 5 <| .take 6 <| .take 7 <| .take 8 <| .take 9 <| .take 10 <| .take 11 <| .take 12 <| .take 13 <| .take 14 <| .take 15 <| .take 16 <| .take 17 <| .take 18 <| .take 19 <| .take 20 <| .take 21 <| .take 22 <| .take 23 <| .take 24 <| .take 25 <| .take 26 <| .take 27 <| .take 28 <| .take 29 <| .take 30 <| .take 31 <| .take 32 <| .take 33 <| .take 34 <| .take 35 <| .take 36 <| .take 37 <| .take 38 <| .take 39 <| .take 40 <| .take 41 <| .take 42 <| .take 43 <| .take 44 <| .take 45 <| .take 46 <| .take 47 <| .take 48 <| .take 49 <| .take 50 <| .take 51 <| .take 52 <| .take 53 <| .take 54 <| .take 55 <| .take 56 <| .take 57 <| .take 58 <| .take 59 <| .take 60 .fin) (fun _ => trivial) (by kernel_rfl) (by kernel_rfl) (show Below _ W3 _ from bdrewN _ 1) ?_
            apply plan_take rfl rfl (by rfl)
            case hy =>
              rintro W' hb'
              clear hb'
              go_simp
              first | done | with_reducible rfl
            simp only [List.setIfInBounds_toArray, List.set_cons_zero, List.set_cons_succ]
            apply plan_take rfl rfl (by rfl)
            case hy =>
              rintro W' hb'
              have e0 := cell_keep hb' HK0.out
              have e1 := cell_keep hb' HK1.out
              have e2 := cell_keep hb' HK2.out
              have f0 := cell_keep hb' HJ0.out
              have f1 := cell_keep hb' HJ1.out
              have f2 := cell_keep hb' HJ2.out
              clear hb'
              go_simp
              first | done | with_reducible rfl
            simp only [List.setIfInBounds_toArray, List.set_cons_zero, List.set_cons_succ]
            apply plan_take rfl rfl (by rfl)
            case hy =>
              rintro W' hb'
              clear hb'
              go_simp
              first | done | with_reducible rfl
            simp only [List.setIfInBounds_toArray, List.set_cons_zero, List.set_cons_succ]
            apply plan_take rfl rfl (by rfl)
            case hy =>
              rintro W' hb'
              clear hb'
              go_simp
              first | done | with_reducible rfl
            simp only [List.setIfInBounds_toArray, List.set_cons_zero, List.set_cons_succ]
            apply plan_gd (j := 3) (t := 71) (b := false) (c := false) rfl rfl rfl rfl rfl (by simp) rfl
            case hy =>
              rintro W' hb'
              clear hb'
              go_simp
              first | done | with_reducible rfl
            simp only [List.setIfInBounds_toArray, List.set_cons_zero, List.set_cons_succ]
            apply plan_gd (j := 3) (t := 71) (b := false) (c := false) rfl rfl rfl rfl rfl (by simp) rfl
            case hy =>
              rintro W' hb'
              have e0 := cell_keep hb' HK0.out
              have e1 := cell_keep hb' HK1.out
              have e2 := cell_keep hb' HK2.out
              have f0 := cell_keep hb' HJ0.out
              have f1 := cell_keep hb' HJ1.out
              have f2 := cell_keep hb' HJ2.out
              clear hb'
              go_simp
              first | done | with_reducible rfl
            simp only [List.setIfInBounds_toArray, List.set_cons_zero, List.set_cons_succ]
            apply plan_gd (j := 3) (t := 71) (b := false) (c := false) rfl rfl rfl rfl rfl (by simp) rfl
            case hy =>
              rintro W' hb'
              clear hb'
              go_simp
              first | done | with_reducible rfl
            simp only [List.setIfInBounds_toArray, List.set_cons_zero, List.set_cons_succ]
            apply plan_gd (j := 3) (t := 71) (b := false) (c := false) rfl rfl rfl rfl rfl (by simp) rfl
            case hy =>
              rintro W' hb'
              clear hb'
              go_simp
              first | done | with_reducible rfl
            simp only [List.setIfInBounds_toArray, List.set_cons_zero, List.set_cons_succ]
            apply plan_gd (j := 3) (t := 71) (b := false) (c := false) rfl rfl rfl rfl rfl (by simp) rfl
            case hy =>
              rintro W' hb'
              clear hb'
              go_simp
              first | done | with_reducible rfl
            simp only [List.setIfInBounds_toArray, List.set_cons_zero, List.set_cons_succ]
            apply plan_take rfl rfl (by rfl)
            case hy =>
              rintro W' hb'
              clear hb'
              go_simp
              first | done | with_reducible rfl
            simp only [List.setIfInBounds_toArray, List.set_cons_zero, List.set_cons_succ]
            apply plan_take rfl rfl (by rfl)
            case hy =>
              rintro W' hb'
              clear hb'
              go_simp
              first | done | with_reducible rfl
            simp only [List.setIfInBounds_toArray, List.set_cons_zero, List.set_cons_succ]
            apply plan_gd (j := 10) (t := 78) (b := false) (c := false) rfl rfl rfl rfl rfl (by simp) rfl
            case hy =>
              rintro W' hb'
              clear hb'
              go_simp
              first | done | with_reducible rfl
            simp only [List.setIfInBounds_toArray, List.set_cons_zero, List.set_cons_succ]
            apply plan_gd (j := 10) (t := 78) (b := false) (c := false) rfl rfl rfl rfl rfl (by simp) rfl
            case hy =>
              rintro W' hb'
              clear hb'
              go_simp
              first | done | with_reducible rfl
            simp only [List.setIfInBounds_toArray, List.set_cons_zero, List.set_cons_succ]
            apply plan_gd (j := 10) (t := 78) (b := false) (c := false) rfl rfl rfl rfl rfl (by simp) rfl
            case hy =>
              rintro W' hb'
              clear hb'
              go_simp
              first | done | with_reducible rfl
            simp only [List.setIfInBounds_toArray, List.set_cons_zero, List.set_cons_succ]
            apply plan_gd (j := 13) (t := 81) (b := true) (c := true) rfl rfl rfl rfl rfl (by simp) rfl
            case hy =>
              rintro W' hb'
              clear hb'
              go_simp
              first | done | with_reducible rfl
            simp only [List.setIfInBounds_toArray, List.set_cons_zero, List.set_cons_succ]
            apply plan_gd (j := 13) (t := 81) (b := true) (c := true) rfl rfl rfl rfl rfl (by simp) rfl
            case hy =>
              rintro W' hb'
              have e0 := cell_keep hb' HK0.out
              have e1 := cell_keep hb' HK1.out
              have e2 := cell_keep hb' HK2.out
              have f0 := cell_keep hb' HJ0.out
              have f1 := cell_keep hb' HJ1.out
              have f2 := cell_keep hb' HJ2.out
              clear hb'
              go_simp
              first | done | with_reducible rfl
            simp only [List.setIfInBounds_toArray, List.set_cons_zero, List.set_cons_succ]
            apply plan_gd (j := 13) (t := 81) (b := true) (c := true) rfl rfl rfl rfl rfl (by simp) rfl
            case hy =>
              rintro W' hb'
              clear hb'
              go_simp
              first | done | with_reducible rfl
            simp only [List.setIfInBounds_toArray, List.set_cons_zero, List.set_cons_succ]
            apply plan_gd (j := 13) (t := 81) (b := true) (c := true) rfl rfl rfl rfl rfl (by simp) rfl
            case hy =>
              rintro W' hb'
              clear hb'
              go_simp
              first | done | with_reducible rfl
            simp only [List.setIfInBounds_toArray, List.set_cons_zero, List.set_cons_succ]
            apply plan_gd (j := 13) (t := 81) (b := true) (c := true) rfl rfl rfl rfl rfl (by simp) rfl
            case hy =>
              rintro W' hb'
              clear hb'
              go_simp
              first | done | with_reducible rfl
            simp only [List.setIfInBounds_toArray, List.set_cons_zero, List.set_cons_succ]
            apply plan_gd (j := 13) (t := 81) (b := true) (c := true) rfl rfl rfl rfl rfl (by simp) rfl
            case hy =>
              rintro W' hb'
              clear hb'
              go_simp
              first | done | with_reducible rfl
            simp only [List.setIfInBounds_toArray, List.set_cons_zero, List.set_cons_succ]
            apply plan_gd (j := 13) (t := 81) (b := true) (c := true) rfl rfl rfl rfl rfl (by simp) rfl
            case hy =>
              rintro W' hb'
              clear hb'
              go_simp
              first | done | with_reducible rfl
            simp only [List.setIfInBounds_toArray, List.set_cons_zero, List.set_cons_succ]
            apply plan_gd (j := 13) (t := 81) (b := true) (c := true) rfl rfl rfl rfl rfl (by simp) rfl
            case hy =>
              rintro W' hb'
              have e0 := cell_keep hb' HK0.out
              have e1 := cell_keep hb' HK1.out
              have e2 := cell_keep hb' HK2.out
              have f0 := cell_keep hb' HJ0.out
              have f1 := cell_keep hb' HJ1.out
              have f2 := cell_keep hb' HJ2.out
              clear hb'
              go_simp
              first | done | with_reducible rfl
            simp only [List.setIfInBounds_toArray, List.set_cons_zero, List.set_cons_succ]
            apply plan_gd (j := 13) (t := 81) (b := true) (c := true) rfl rfl rfl rfl rfl (by simp) rfl
            case hy =>
              rintro W' hb'
              clear hb'
              go_simp
              first | done | with_reducible rfl
            simp only [List.setIfInBounds_toArray, List.set_cons_zero, List.set_cons_succ]
            apply plan_gd (j := 13) (t := 81) (b := true) (c := true) rfl rfl rfl rfl rfl (by simp) rfl
            case hy =>
              rintro W' hb'
              clear hb'
              go_simp
              first | done | with_reducible rfl
            simp only [List.setIfInBounds_toArray, List.set_cons_zero, List.set_cons_succ]
            apply plan_gd (j := 23) (t := 91) (b := false) (c := false) rfl rfl rfl rfl rfl (by simp) rfl
            case hy =>
              rintro W' hb'
              clear hb'
              go_simp
              first | done | with_reducible rfl
            simp only [List.setIfInBounds_toArray, List.set_cons_zero, List.set_cons_succ]
            apply plan_gd (j := 23) (t := 91) (b := false) (c := false) rfl rfl rfl rfl rfl (by simp) rfl
            case hy =>
              rintro W' hb'
              have e0 := cell_keep hb' HK0.out
              have e1 := cell_keep hb' HK1.out
              have e2 := cell_keep hb' HK2.out
              have f0 := cell_keep hb' HJ0.out
              have f1 := cell_keep hb' HJ1.out
              have f2 := cell_keep hb' HJ2.out
              clear hb'
              go_simp
              first | done | with_reducible rfl
            simp only [List.setIfInBounds_toArray, List.set_cons_zero, List.set_cons_succ]
            apply plan_gd (j := 23) (t := 91) (b := false) (c := false) rfl rfl rfl rfl rfl (by simp) rfl
            case hy =>
              rintro W' hb'
              clear hb'
              go_simp
              first | done | with_reducible rfl
            simp only [List.setIfInBounds_toArray, List.set_cons_zero, List.set_cons_succ]
            apply plan_gd (j := 23) (t := 91) (b := false) (c := false) rfl rfl rfl rfl rfl (by simp) rfl
            case hy =>
              rintro W' hb'
              clear hb'
              go_simp
              first | done | with_reducible rfl
            simp only [List.setIfInBounds_toArray, List.set_cons_zero, List.set_cons_succ]
            apply plan_gd (j := 23) (t := 91) (b := false) (c := false) rfl rfl rfl rfl rfl (by simp) rfl
            case hy =>
              rintro W' hb'
              clear hb'
              go_simp
              first | done | with_reducible rfl
            simp only [List.setIfInBounds_toArray, List.set_cons_zero, List.set_cons_succ]
            apply plan_gd (j := 23) (t := 91) (b := false) (c := false) rfl rfl rfl rfl rfl (by simp) rfl
            case hy =>
              rintro W' hb'
              clear hb'
              go_simp
              first | done | with_reducible rfl
            simp only [List.setIfInBounds_toArray, List.set_cons_zero, List.set_cons_succ]
            apply plan_gd (j := 23) (t := 91) (b := false) (c := false) rfl rfl rfl rfl rfl (by simp) rfl
            case hy =>
              rintro W' hb'
              clear hb'
              go_simp
              first | done | with_reducible rfl
            simp only [List.setIfInBounds_toArray, List.set_cons_zero, List.set_cons_succ]
            apply plan_gd (j := 23) (t := 91) (b := false) (c := false) rfl rfl rfl rfl rfl (by simp) rfl
            case hy =>
              rintro W' hb'
              have e0 := cell_keep hb' HK0.out
              have e1 := cell_keep hb' HK1.out
              have e2 := cell_keep hb' HK2.out
              have f0 := cell_keep hb' HJ0.out
              have f1 := cell_keep hb' HJ1.out
              have f2 := cell_keep hb' HJ2.out
              clear hb'
              go_simp
              first | done | with_reducible rfl
            simp only [List.setIfInBounds_toArray, List.set_cons_zero, List.set_cons_succ]
            apply plan_gd (j := 23) (t := 91) (b := false) (c := false) rfl rfl rfl rfl rfl (by simp) rfl
            case hy =>
              rintro W' hb'
              clear hb'
              go_simp
              first | done | with_reducible rfl
            simp only [List.setIfInBounds_toArray, List.set_cons_zero, List.set_cons_succ]
            apply plan_gd (j := 23) (t := 91) (b := false) (c := false) rfl rfl rfl rfl rfl (by simp) rfl
            case hy =>
              rintro W' hb'
              clear hb'
              go_simp
              first | done | with_reducible rfl
            simp only [List.setIfInBounds_toArray, List.set_cons_zero, List.set_cons_succ]
            apply plan_gd (j := 23) (t := 91) (b := false) (c := false) rfl rfl rfl rfl rfl (by simp) rfl
            case hy =>
              rintro W' hb'
              clear hb'
              go_simp
              first | done | with_reducible rfl
            simp only [List.setIfInBounds_toArray, List.set_cons_zero, List.set_cons_succ]
            apply plan_gd (j := 23) (t := 91) (b := false) (c := false) rfl rfl rfl rfl rfl (by simp) rfl
            case hy =>
              rintro W' hb'
              clear hb'
              go_simp
              first | done | with_reducible rfl
            simp only [List.setIfInBounds_toArray, List.set_cons_zero, List.set_cons_succ]
            apply plan_gd (j := 23) (t := 91) (b := false) (c := false) rfl rfl rfl rfl rfl (by simp) rfl
            case hy =>
              rintro W' hb'
              clear hb'
              go_simp
              first | done | with_reducible rfl
            simp only [List.setIfInBounds_toArray, List.set_cons_zero, List.set_cons_succ]
            apply plan_gd (j := 23) (t := 91) (b := false) (c := false) rfl rfl rfl rfl rfl (by simp) rfl
            case hy =>
              rintro W' hb'
              have e0 := cell_keep hb' HK0.out
              have e1 := cell_keep hb' HK1.out
              have e2 := cell_keep hb' HK2.out
              have f0 := cell_keep hb' HJ0.out
              have f1 := cell_keep hb' HJ1.out
              have f2 := cell_keep hb' HJ2.out
              clear hb'
              go_simp
              first | done | with_reducible rfl
            simp only [List.setIfInBounds_toArray, List.set_cons_zero, List.set_cons_succ]
            apply plan_gd (j := 23) (t := 91) (b := false) (c := false) rfl rfl rfl rfl rfl (by simp) rfl
            case hy =>
              rintro W' hb'
              clear hb'
              go_simp
              first | done | with_reducible rfl
            simp only [List.setIfInBounds_toArray, List.set_cons_zero, List.set_cons_succ]
            apply plan_gd (j := 23) (t := 91) (b := false) (c := false) rfl rfl rfl rfl rfl (by simp) rfl
            case hy =>
              rintro W' hb'
              clear hb'
              go_simp
              first | done | with_reducible rfl
            simp only [List.setIfInBounds_toArray, List.set_cons_zero, List.set_cons_succ]
            apply plan_gd (j := 23) (t := 91) (b := false) (c := false) rfl rfl rfl rfl rfl (by simp) rfl
            case hy =>
              rintro W' hb'
              clear hb'
              go_simp
              first | done | with_reducible rfl
            simp only [List.setIfInBounds_toArray, List.set_cons_zero, List.set_cons_succ]
            apply plan_gd (j := 40) (t := 108) (b := true) (c := true) rfl rfl rfl rfl rfl (by simp) rfl
            case hy =>
              rintro W' hb'
              clear hb'
              go_simp
              first | done | with_reducible rfl
            simp only [List.setIfInBounds_toArray, List.set_cons_zero, List.set_cons_succ]
            apply plan_gd (j := 40) (t := 108) (b := true) (c := true) rfl rfl rfl rfl rfl (by simp) rfl
            case hy =>
              rintro W' hb'
              have e0 := cell_keep hb' HK0.out
              have e1 := cell_keep hb' HK1.out
              have e2 := cell_keep hb' HK2.out
              have f0 := cell_keep hb' HJ0.out
              have f1 := cell_keep hb' HJ1.out
              have f2 := cell_keep hb' HJ2.out
              clear hb'
              go_simp
              first | done | with_reducible rfl
            simp only [List.setIfInBounds_toArray, List.set_cons_zero, List.set_cons_succ]
            apply plan_gd (j := 40) (t := 108) (b := true) (c := true) rfl rfl rfl rfl rfl (by simp) rfl
            case hy =>
              rintro W' hb'
              clear hb'
              go_simp
              first | done | with_reducible rfl
            simp only [List.setIfInBounds_toArray, List.set_cons_zero, List.set_cons_succ]
            apply plan_gd (j := 40) (t := 108) (b := true) (c := true) rfl rfl rfl rfl rfl (by simp) rfl
            case hy =>
              rintro W' hb'
              clear hb'
              go_simp
              first | done | with_reducible rfl
            simp only [List.setIfInBounds_toArray, List.set_cons_zero, List.set_cons_succ]
            apply plan_gd (j := 40) (t := 108) (b := true) (c := true) rfl rfl rfl rfl rfl (by simp) rfl
            case hy =>
              rintro W' hb'
              clear hb'
              go_simp
              first | done | with_reducible rfl
            simp only [List.setIfInBounds_toArray, List.set_cons_zero, List.set_cons_succ]
            apply plan_gd (j := 40) (t := 108) (b := true) (c := true) rfl rfl rfl rfl rfl (by simp) rfl
            case hy =>
              rintro W' hb'
              clear hb'
              go_simp
              first | done | with_reducible rfl
            simp only [List.setIfInBounds_toArray, List.set_cons_zero, List.set_cons_succ]
            apply plan_gd (j := 40) (t := 108) (b := true) (c := true) rfl rfl rfl rfl rfl (by simp) rfl
            case hy =>
              rintro W' hb'
              clear hb'
              go_simp
              first | done | with_reducible rfl
            simp only [List.setIfInBounds_toArray, List.set_cons_zero, List.set_cons_succ]
            apply plan_gd (j := 40) (t := 108) (b := true) (c := true) rfl rfl rfl rfl rfl (by simp) rfl
            case hy =>
              rintro W' hb'
              have e0 := cell_keep hb' HK0.out
              have e1 := cell_keep hb' HK1.out
              have e2 := cell_keep hb' HK2.out
              have f0 := cell_keep hb' HJ0.out
              have f1 := cell_keep hb' HJ1.out
              have f2 := cell_keep hb' HJ2.out
              clear hb'
              go_simp
              first | done | with_reducible rfl
            simp only [List.setIfInBounds_toArray, List.set_cons_zero, List.set_cons_succ]
            apply plan_gd (j := 40) (t := 108) (b := true) (c := true) rfl rfl rfl rfl rfl (by simp) rfl
            case hy =>
              rintro W' hb'
              clear hb'
              go_simp
              first | done | with_reducible rfl
            simp only [List.setIfInBounds_toArray, List.set_cons_zero, List.set_cons_succ]
            apply plan_gd (j := 40) (t := 108) (b := true) (c := true) rfl rfl rfl rfl rfl (by simp) rfl
            case hy =>
              rintro W' hb'
              clear hb'
              go_simp
              first | done | with_reducible rfl
            simp only [List.setIfInBounds_toArray, List.set_cons_zero, List.set_cons_succ]
            apply plan_gd (j := 40) (t := 108) (b := true) (c := true) rfl rfl rfl rfl rfl (by simp) rfl
            case hy =>
              rintro W' hb'
              clear hb'
              go_simp
              first | done | with_reducible rfl
            simp only [List.setIfInBounds_toArray, List.set_cons_zero, List.set_cons_succ]
            apply plan_gd (j := 40) (t := 108) (b := true) (c := true) rfl rfl rfl rfl rfl (by simp) rfl
            case hy =>
              rintro W' hb'
              clear hb'
              go_simp
              first | done | with_reducible rfl
            simp only [List.setIfInBounds_toArray, List.set_cons_zero, List.set_cons_succ]
            apply plan_gd (j := 40) (t := 108) (b := true) (c := true) rfl rfl rfl rfl rfl (by simp) rfl
            case hy =>
              rintro W' hb'
              clear hb'
              go_simp
              first | done | with_reducible rfl
            simp only [List.setIfInBounds_toArray, List.set_cons_zero, List.set_cons_succ]
            apply plan_gd (j := 40) (t := 108) (b := true) (c := true) rfl rfl rfl rfl rfl (by simp) rfl
            case hy =>
              rintro W' hb'
              have e0 := cell_keep hb' HK0.out
              have e1 := cell_keep hb' HK1.out
              have e2 := cell_keep hb' HK2.out
              have f0 := cell_keep hb' HJ0.out
              have f1 := cell_keep hb' HJ1.out
              have f2 := cell_keep hb' HJ2.out
              clear hb'
              go_simp
              first | done | with_reducible rfl
            simp only [List.setIfInBounds_toArray, List.set_cons_zero, List.set_cons_succ]
            apply plan_gd (j := 40) (t := 108) (b := true) (c := true) rfl rfl rfl rfl rfl (by simp) rfl
            case hy =>
              rintro W' hb'
              clear hb'
              go_simp
              first | done | with_reducible rfl
            simp only [List.setIfInBounds_toArray, List.set_cons_zero, List.set_cons_succ]
            apply plan_gd (j := 40) (t := 108) (b := true) (c := true) rfl rfl rfl rfl rfl (by simp) rfl
            case hy =>
              rintro W' hb'
              clear hb'
              go_simp
              first | done | with_reducible rfl
            simp only [List.setIfInBounds_toArray, List.set_cons_zero, List.set_cons_succ]
            apply plan_gd (j := 23) (t := 91) (b := false) (c := false) rfl rfl rfl rfl rfl (by simp) rfl
            case hy =>
              rintro W' hb'
              clear hb'
              go_simp
              first | done | with_reducible rfl
            simp only [List.setIfInBounds_toArray, List.set_cons_zero, List.set_cons_succ]
            apply plan_gd (j := 13) (t := 81) (b := true) (c := true) rfl rfl rfl rfl rfl (by simp) rfl
            case hy =>
              rintro W' hb'
              clear hb'
              go_simp
              first | done | with_reducible rfl
            simp only [List.setIfInBounds_toArray, List.set_cons_zero, List.set_cons_succ]
            apply plan_gd (j := 10) (t := 78) (b := false) (c := false) rfl rfl rfl rfl rfl (by simp) rfl
            case hy =>
              rintro W' hb'
              clear hb'
              go_simp
              first | done | with_reducible rfl
            simp only [List.setIfInBounds_toArray, List.set_cons_zero, List.set_cons_succ]
            apply plan_take rfl rfl (by rfl)
            case hy =>
              rintro W' hb'
              clear hb'
              go_simp
              first | done | with_reducible rfl
            simp only [List.setIfInBounds_toArray, List.set_cons_zero, List.set_cons_succ]
            refine plan_fin ?_
            gi_wp2_with (fail)
            have k0 := cell_keep (bdrewN W3 1) HK0.out
            have k1 := cell_keep (bdrewN W3 1) HK1.out
            have k2 := cell_keep (bdrewN W3 1) HK2.out
            replace k0 : W3.drew.cell? ⟨X, 0, none⟩ = some (.int .i64 fst) := k0
            replace k1 : W3.drew.cell? ⟨X, 1, none⟩ = some (.int .i64 snd) := k1
            replace k2 : W3.drew.cell? ⟨X, 2, none⟩ = some (.int .i64 len) := k2
            go_wp2_with (fail)
            go_loopw [13, 131] (fun av jv wr => ∃ t : Nat, (t : Int) ≤ len ∧ jv = .int .i64 t ∧ AllO w5.heap.size wr av ((C.map pairI ++ (K.take i).flatMap expB) ++ EX.take t) ∧ BlkK wr X #[.int .i64 fst, .int .i64 snd, .int .i64 len] 54 ∧ Below w5.heap.size w5 wr) (fun _ jv _ => len.toNat - (intOf jv).toNat)
            case atStart => exact ⟨0, by omega, rfl, by rw [List.take_zero, List.append_nil]; exact HO.out.below (bdrewN W3 1), HKB.out.below (bdrewN W3 1), bstep HB3'.out (bdrewN W3 1)⟩
            case round =>
              obtain ⟨wk, rfl⟩ : ∃ wk : World, wk = wr := ⟨_, rfl⟩
              obtain ⟨t, ht, rfl, ho, hbk, hb⟩ := hrel
              have HBK := Lib.hid hb
              have HKK := Lib.hid hbk
              have hsz := hb.size
              clear k0 k1 k2
              have k0 := hbk.cell (i := 0) (u := .int .i64 fst) rfl
              have k1 := hbk.cell (i := 1) (u := .int .i64 snd) rfl
              have k2 := hbk.cell (i := 2) (u := .int .i64 len) rfl
              by_cases htl : (t : Int) < len
              · have hbo := balloc wk (.cells #[.int .i64 (fst + (t : Int)), .int .i64 (snd + (t : Int))] 3)
                have hnw := BlkK.new wk #[.int .i64 (fst + (t : Int)), .int .i64 (snd + (t : Int))] 3
                obtain ⟨vs, hrow, hnx⟩ := ho.ready hsz hbo (p := (fst + (t : Int), snd + (t : Int))) (u := .slice (some ⟨wk.heap.size, 0, none⟩) 2 2) ⟨wk.heap.size, 0, 2, rfl, hnw.cell (i := 0) rfl, hnw.cell (i := 1) rfl, ⟨by simp only; omega, by simp only; omega⟩, ⟨by simp only; omega, by simp only; omega⟩, .inr ⟨_, _, hnw⟩⟩
                obtain ⟨N, hNN⟩ : ∃ N, ((C.map pairI ++ (K.take i).flatMap expB) ++ EX.take t).length = N := ⟨_, rfl⟩
                have hNb : N ≤ 1024 := by rw [← hNN, List.length_append, List.length_append, HEL.out t ht]; omega
                rw [hNN] at hrow hnx
                have HROW := Lib.hid hrow
                have HNXT := Lib.hid hnx
                have HTS := Lib.hid (HTK.out t htl)
                have HNEW := Lib.hid (show ∀ (j : Nat) (u : Value), [Value.slice (some ⟨wk.heap.size, 0, none⟩) 2 2][j]? = some u → ((wk.alloc (.cells #[.int .i64 (fst + (t : Int)), .int .i64 (snd + (t : Int))] 3)).alloc (.cells #[.slice (some ⟨wk.heap.size, 0, none⟩) 2 2] 29)).cell? ((⟨wk.heap.size + 1, 0, none⟩ : Addr).add j) = some u from World.news_of_block (cs := #[.slice (some ⟨wk.heap.size, 0, none⟩) 2 2]) (heap_fresh (by simp)))
                have HB5K := Lib.hid (bstep hb hbo)
                have HKO := Lib.hid (hbk.below hbo)
                have wf : IntKind.i64.wrap (fst + (t : Int)) = fst + (t : Int) := IntWalk.i64_in _ (by omega)
                have ws : IntKind.i64.wrap (snd + (t : Int)) = snd + (t : Int) := IntWalk.i64_in _ (by omega)
                have dj : decide ((t : Int) < len) = true := decide_eq_true htl
                have HJ := Lib.hid htl
                obtain ⟨av', ac', hav⟩ := ho.slice
                cases hav
                rw [hNN]
                rw [hNN] at HROW HNXT
                clear hrow hnx hNN hbo hnw ho hb hbk htl
                go_wp2_with (at_builtin; refine wpList_append_own _ rfl _ _ 25 rfl w5.heap.size 29 ir (.slice none 0 0) 1 24 Tryz.underlying25 hir hr0 hr1 hr2 rfl (by decide) _ _ _ rfl (HROW.out.alloc _) ⟨wk.heap.size + 1, 0, none⟩ 1 1 [.slice (some ⟨wk.heap.size, 0, none⟩) 2 2] rfl rfl HNEW.out (by simp [Value.oneCell']) (by unfold maxLen; omega) (by omega) (by simp; omega) ?_; intro v1 w7 hown1 hgrow1 _; have HO7 := Lib.hid hown1; have HG := Lib.hid hgrow1; clear hown1 hgrow1)
                obtain ⟨j1, j2⟩ := HNXT.out _ _ _ HO7.out HG.out
                have j3 := (HKO.out.below (balloc _ _)).keptE HG.out (HKO.out.apart HROW.out (by decide))
                go_roundw
                case rel => exact ⟨t + 1, by have := HJ.out; omega, by simp, by rw [HTS.out, ← List.append_assoc]; exact j1, j3, HB5K.out.trans j2⟩
                case measure => have := HJ.out; simp [intOf]; omega
              · have hte : (t : Int) = len := by omega
                have dj : decide ((t : Int) < len) = false := decide_eq_false htl
                have hoe := ho
                rw [show EX.take t = EX from List.take_of_length_le (by have := HALL.out; omega), List.append_assoc, ← HKT.out] at hoe
                have HOE := Lib.hid hoe
                clear ho hb hbk hte htl hoe
                go_wp2_with (fail)
                go_roundw
                case rel => exact ⟨i + 1, by omega, by simp, HOE.out, HBK.out⟩
                case measure => simp [intOf]; omega
          · have d3 : (fst == yf + yl) = false := by rw [beq_eq_false_iff_ne]; exact e1
            clear hap hsy hly y0 y1 y2 hy h0 hi' e1
            refine (wpIn_wide (n := 20)).1 ?_
            refine wpIn_region_planN (fun W' => Below W3.heap.size W3 W') (.take 0 <| .take 1 <| .take 2 <| .take 3 <| .take 4 <| .take 5 <| .take 6 <| .take 7 <| .take 8 <| .take 9 <| .take 10 <| .take 11 <| .take 12 <| .take 13 <| .take 14 <| .take 15 <| .take 16 <| .take 17 <| .take 18 <| .take 19 <| .take 20 <| .take 21 <| .take 22 <| .take 23 <| .take 24 <| .take 25 <| .take 26 <| .take 27 <| .take 28 <| .take 29 <| .take 30 <| .take 31 <| .take 32 <| .take 33 <| .take 34 <| .take 35 <| .take 36 <| .take 37 <| .take 38 <| .take 39 <| .take 40 <| .take 41 <| .take 42 <| .take 43 <| .take 44 <| .take 45 <| .take 46 <| .take 47 <| .take 48 <| .take 49 <| .take 50 <| .take 51 <| .take 52 <| .take 53 <| .take 54 <| .take 55 <| .take 56 <| .take 57 <| .take 58 <| .take 59 <| .take 60 .fin) (fun _ => trivial) (by kernel_rfl) (by kernel_rfl) (show Below _ W3 _ from bdrewN _ 1) ?_
            apply plan_take rfl rfl (by rfl)
            case hy =>
              rintro W' hb'
              clear hb'
              go_simp
              first | done | with_reducible rfl
            simp only [List.setIfInBounds_toArray, List.set_cons_zero, List.set_cons_succ]
            apply plan_take rfl rfl (by rfl)
            case hy =>
              rintro W' hb'
              have e0 := cell_keep hb' HK0.out
              have e1 := cell_keep hb' HK1.out
              have e2 := cell_keep hb' HK2.out
              have f0 := cell_keep hb' HJ0.out
              have f1 := cell_keep hb' HJ1.out
              have f2 := cell_keep hb' HJ2.out
              clear hb'
              go_simp
              first | done | with_reducible rfl
            simp only [List.setIfInBounds_toArray, List.set_cons_zero, List.set_cons_succ]
            apply plan_take rfl rfl (by rfl)
            case hy =>
              rintro W' hb'
              clear hb'
              go_simp
              first | done | with_reducible rfl
            simp only [List.setIfInBounds_toArray, List.set_cons_zero, List.set_cons_succ]
            apply plan_take rfl rfl (by rfl)
            case hy =>
              rintro W' hb'
              clear hb'
              go_simp
              first | done | with_reducible rfl
            simp only [List.setIfInBounds_toArray, List.set_cons_zero, List.set_cons_succ]
            apply plan_gd (j := 3) (t := 71) (b := false) (c := false) rfl rfl rfl rfl rfl (by simp) rfl
            case hy =>
              rintro W' hb'
              clear hb'
              go_simp
              first | done | with_reducible rfl
            simp only [List.setIfInBounds_toArray, List.set_cons_zero, List.set_cons_succ]
            apply plan_gd (j := 3) (t := 71) (b := false) (c := false) rfl rfl rfl rfl rfl (by simp) rfl
            case hy =>
              rintro W' hb'
              have e0 := cell_keep hb' HK0.out
              have e1 := cell_keep hb' HK1.out
              have e2 := cell_keep hb' HK2.out
              have f0 := cell_keep hb' HJ0.out
              have f1 := cell_keep hb' HJ1.out
              have f2 := cell_keep hb' HJ2.out
              clear hb'
              go_simp
              first | done | with_reducible rfl
            simp only [List.setIfInBounds_toArray, List.set_cons_zero, List.set_cons_succ]
            apply plan_gd (j := 3) (t := 71) (b := false) (c := false) rfl rfl rfl rfl rfl (by simp) rfl
            case hy =>
              rintro W' hb'
              clear hb'
              go_simp
              first | done | with_reducible rfl
            simp only [List.setIfInBounds_toArray, List.set_cons_zero, List.set_cons_succ]
            apply plan_gd (j := 3) (t := 71) (b := false) (c := false) rfl rfl rfl rfl rfl (by simp) rfl
            case hy =>
              rintro W' hb'
              clear hb'
              go_simp
              first | done | with_reducible rfl
            simp only [List.setIfInBounds_toArray, List.set_cons_zero, List.set_cons_succ]
            apply plan_gd (j := 3) (t := 71) (b := false) (c := false) rfl rfl rfl rfl rfl (by simp) rfl
            case hy =>
              rintro W' hb'
              clear hb'
              go_simp
              first | done | with_reducible rfl
            simp only [List.setIfInBounds_toArray, List.set_cons_zero, List.set_cons_succ]
            apply plan_take rfl rfl (by rfl)
            case hy =>
              rintro W' hb'
              clear hb'
              go_simp
              first | done | with_reducible rfl
            simp only [List.setIfInBounds_toArray, List.set_cons_zero, List.set_cons_succ]
            apply plan_take rfl rfl (by rfl)
            case hy =>
              rintro W' hb'
              clear hb'
              go_simp
              first | done | with_reducible rfl
            simp only [List.setIfInBounds_toArray, List.set_cons_zero, List.set_cons_succ]
            apply plan_gd (j := 10) (t := 78) (b := false) (c := false) rfl rfl rfl rfl rfl (by simp) rfl
            case hy =>
              rintro W' hb'
              clear hb'
              go_simp
              first | done | with_reducible rfl
            simp only [List.setIfInBounds_toArray, List.set_cons_zero, List.set_cons_succ]
            apply plan_gd (j := 10) (t := 78) (b := false) (c := false) rfl rfl rfl rfl rfl (by simp) rfl
            case hy =>
              rintro W' hb'
              clear hb'
              go_simp
              first | done | with_reducible rfl
            simp only [List.setIfInBounds_toArray, List.set_cons_zero, List.set_cons_succ]
            apply plan_gd (j := 10) (t := 78) (b := false) (c := false) rfl rfl rfl rfl rfl (by simp) rfl
            case hy =>
              rintro W' hb'
              clear hb'
              go_simp
              first | done | with_reducible rfl
            simp only [List.setIfInBounds_toArray, List.set_cons_zero, List.set_cons_succ]
            apply plan_gd (j := 13) (t := 81) (b := true) (c := true) rfl rfl rfl rfl rfl (by simp) rfl
            case hy =>
              rintro W' hb'
              clear hb'
              go_simp
              first | done | with_reducible rfl
            simp only [List.setIfInBounds_toArray, List.set_cons_zero, List.set_cons_succ]
            apply plan_gd (j := 13) (t := 81) (b := true) (c := true) rfl rfl rfl rfl rfl (by simp) rfl
            case hy =>
              rintro W' hb'
              have e0 := cell_keep hb' HK0.out
              have e1 := cell_keep hb' HK1.out
              have e2 := cell_keep hb' HK2.out
              have f0 := cell_keep hb' HJ0.out
              have f1 := cell_keep hb' HJ1.out
              have f2 := cell_keep hb' HJ2.out
              clear hb'
              go_simp
              first | done | with_reducible rfl
            simp only [List.setIfInBounds_toArray, List.set_cons_zero, List.set_cons_succ]
            apply plan_gd (j := 13) (t := 81) (b := true) (c := true) rfl rfl rfl rfl rfl (by simp) rfl
            case hy =>
              rintro W' hb'
              clear hb'
              go_simp
              first | done | with_reducible rfl
            simp only [List.setIfInBounds_toArray, List.set_cons_zero, List.set_cons_succ]
            apply plan_gd (j := 13) (t := 81) (b := true) (c := true) rfl rfl rfl rfl rfl (by simp) rfl
            case hy =>
              rintro W' hb'
              clear hb'
              go_simp
              first | done | with_reducible rfl
            simp only [List.setIfInBounds_toArray, List.set_cons_zero, List.set_cons_succ]
            apply plan_gd (j := 13) (t := 81) (b := true) (c := true) rfl rfl rfl rfl rfl (by simp) rfl
            case hy =>
              rintro W' hb'
              clear hb'
              go_simp
              first | done | with_reducible rfl
            simp only [List.setIfInBounds_toArray, List.set_cons_zero, List.set_cons_succ]
            apply plan_gd (j := 13) (t := 81) (b := true) (c := true) rfl rfl rfl rfl rfl (by simp) rfl
            case hy =>
              rintro W' hb'
              clear hb'
              go_simp
              first | done | with_reducible rfl
            simp only [List.setIfInBounds_toArray, List.set_cons_zero, List.set_cons_succ]
            apply plan_gd (j := 13) (t := 81) (b := true) (c := true) rfl rfl rfl rfl rfl (by simp) rfl
            case hy =>
              rintro W' hb'
              clear hb'
              go_simp
              first | done | with_reducible rfl
            simp only [List.setIfInBounds_toArray, List.set_cons_zero, List.set_cons_succ]
            apply plan_gd (j := 13) (t := 81) (b := true) (c := true) rfl rfl rfl rfl rfl (by simp) rfl
            case hy =>
              rintro W' hb'
              have e0 := cell_keep hb' HK0.out
              have e1 := cell_keep hb' HK1.out
              have e2 := cell_keep hb' HK2.out
              have f0 := cell_keep hb' HJ0.out
              have f1 := cell_keep hb' HJ1.out
              have f2 := cell_keep hb' HJ2.out
              clear hb'
              go_simp
              first | done | with_reducible rfl
            simp only [List.setIfInBounds_toArray, List.set_cons_zero, List.set_cons_succ]
            apply plan_gd (j := 13) (t := 81) (b := true) (c := true) rfl rfl rfl rfl rfl (by simp) rfl
            case hy =>
              rintro W' hb'
              clear hb'
              go_simp
              first | done | with_reducible rfl
            simp only [List.setIfInBounds_toArray, List.set_cons_zero, List.set_cons_succ]
            apply plan_gd (j := 13) (t := 81) (b := true) (c := true) rfl rfl rfl rfl rfl (by simp) rfl
            case hy =>
              rintro W' hb'
              clear hb'
              go_simp
              first | done | with_reducible rfl
            simp only [List.setIfInBounds_toArray, List.set_cons_zero, List.set_cons_succ]
            apply plan_gd (j := 23) (t := 91) (b := false) (c := false) rfl rfl rfl rfl rfl (by simp) rfl
            case hy =>
              rintro W' hb'
              clear hb'
              go_simp
              first | done | with_reducible rfl
            simp only [List.setIfInBounds_toArray, List.set_cons_zero, List.set_cons_succ]
            apply plan_gd (j := 23) (t := 91) (b := false) (c := false) rfl rfl rfl rfl rfl (by simp) rfl
            case hy =>
              rintro W' hb'
              have e0 := cell_keep hb' HK0.out
              have e1 := cell_keep hb' HK1.out
              have e2 := cell_keep hb' HK2.out
              have f0 := cell_keep hb' HJ0.out
              have f1 := cell_keep hb' HJ1.out
              have f2 := cell_keep hb' HJ2.out
              clear hb'
              go_simp
              first | done | with_reducible rfl
            simp only [List.setIfInBounds_toArray, List.set_cons_zero, List.set_cons_succ]
            apply plan_gd (j := 23) (t := 91) (b := false) (c := false) rfl rfl rfl rfl rfl (by simp) rfl
            case hy =>
              rintro W' hb'
              clear hb'
              go_simp
              first | done | with_reducible rfl
            simp only [List.setIfInBounds_toArray, List.set_cons_zero, List.set_cons_succ]
            apply plan_gd (j := 23) (t := 91) (b := false) (c := false) rfl rfl rfl rfl rfl (by simp) rfl
            case hy =>
              rintro W' hb'
              clear hb'
              go_simp
              first | done | with_reducible rfl
            simp only [List.setIfInBounds_toArray, List.set_cons_zero, List.set_cons_succ]
            apply plan_gd (j := 23) (t := 91) (b := false) (c := false) rfl rfl rfl rfl rfl (by simp) rfl
            case hy =>
              rintro W' hb'
              clear hb'
              go_simp
              first | done | with_reducible rfl
            simp only [List.setIfInBounds_toArray, List.set_cons_zero, List.set_cons_succ]
            apply plan_gd (j := 23) (t := 91) (b := false) (c := false) rfl rfl rfl rfl rfl (by simp) rfl
            case hy =>
              rintro W' hb'
              clear hb'
              go_simp
              first | done | with_reducible rfl
            simp only [List.setIfInBounds_toArray, List.set_cons_zero, List.set_cons_succ]
            apply plan_gd (j := 23) (t := 91) (b := false) (c := false) rfl rfl rfl rfl rfl (by simp) rfl
            case hy =>
              rintro W' hb'
              clear hb'
              go_simp
              first | done | with_reducible rfl
            simp only [List.setIfInBounds_toArray, List.set_cons_zero, List.set_cons_succ]
            apply plan_gd (j := 23) (t := 91) (b := false) (c := false) rfl rfl rfl rfl rfl (by simp) rfl
            case hy =>
              rintro W' hb'
              have e0 := cell_keep hb' HK0.out
              have e1 := cell_keep hb' HK1.out
              have e2 := cell_keep hb' HK2.out
              have f0 := cell_keep hb' HJ0.out
              have f1 := cell_keep hb' HJ1.out
              have f2 := cell_keep hb' HJ2.out
              clear hb'
              go_simp
              first | done | with_reducible rfl
            simp only [List.setIfInBounds_toArray, List.set_cons_zero, List.set_cons_succ]
            apply plan_gd (j := 23) (t := 91) (b := false) (c := false) rfl rfl rfl rfl rfl (by simp) rfl
            case hy =>
              rintro W' hb'
              clear hb'
              go_simp
              first | done | with_reducible rfl
            simp only [List.setIfInBounds_toArray, List.set_cons_zero, List.set_cons_succ]
            apply plan_gd (j := 23) (t := 91) (b := false) (c := false) rfl rfl rfl rfl rfl (by simp) rfl
            case hy =>
              rintro W' hb'
              clear hb'
              go_simp
              first | done | with_reducible rfl
            simp only [List.setIfInBounds_toArray, List.set_cons_zero, List.set_cons_succ]
            apply plan_gd (j := 23) (t := 91) (b := false) (c := false) rfl rfl rfl rfl rfl (by simp) rfl
            case hy =>
              rintro W' hb'
              clear hb'
              go_simp
              first | done | with_reducible rfl
            simp only [List.setIfInBounds_toArray, List.set_cons_zero, List.set_cons_succ]
            apply plan_gd (j := 23) (t := 91) (b := false) (c := false) rfl rfl rfl rfl rfl (by simp) rfl
            case hy =>
              rintro W' hb'
              clear hb'
              go_simp
              first | done | with_reducible rfl
            simp only [List.setIfInBounds_toArray, List.set_cons_zero, List.set_cons_succ]
            apply plan_gd (j := 23) (t := 91) (b := false) (c := false) rfl rfl rfl rfl rfl (by simp) rfl
            case hy =>
              rintro W' hb'
              clear hb'
              go_simp
              first | done | with_reducible rfl
            simp only [List.setIfInBounds_toArray, List.set_cons_zero, List.set_cons_succ]
            apply plan_gd (j := 23) (t := 91) (b := false) (c := false) rfl rfl rfl rfl rfl (by simp) rfl
            case hy =>
              rintro W' hb'
              have e0 := cell_keep hb' HK0.out
              have e1 := cell_keep hb' HK1.out
              have e2 := cell_keep hb' HK2.out
              have f0 := cell_keep hb' HJ0.out
              have f1 := cell_keep hb' HJ1.out
              have f2 := cell_keep hb' HJ2.out
              clear hb'
              go_simp
              first | done | with_reducible rfl
            simp only [List.setIfInBounds_toArray, List.set_cons_zero, List.set_cons_succ]
            apply plan_gd (j := 23) (t := 91) (b := false) (c := false) rfl rfl rfl rfl rfl (by simp) rfl
            case hy =>
              rintro W' hb'
              clear hb'
              go_simp
              first | done | with_reducible rfl
            simp only [List.setIfInBounds_toArray, List.set_cons_zero, List.set_cons_succ]
            apply plan_gd (j := 23) (t := 91) (b := false) (c := false) rfl rfl rfl rfl rfl (by simp) rfl
            case hy =>
              rintro W' hb'
              clear hb'
              go_simp
              first | done | with_reducible rfl
            simp only [List.setIfInBounds_toArray, List.set_cons_zero, List.set_cons_succ]
            apply plan_gd (j := 23) (t := 91) (b := false) (c := false) rfl rfl rfl rfl rfl (by simp) rfl
            case hy =>
              rintro W' hb'
              clear hb'
              go_simp
              first | done | with_reducible rfl
            simp only [List.setIfInBounds_toArray, List.set_cons_zero, List.set_cons_succ]
            apply plan_no (j := 40) (t := 108) (b := false) (c := true) rfl rfl rfl rfl rfl (by simp) rfl
            simp only [List.setIfInBounds_toArray, List.set_cons_zero, List.set_cons_succ]
            apply plan_no (j := 40) (t := 108) (b := false) (c := true) rfl rfl rfl rfl rfl (by simp) rfl
            simp only [List.setIfInBounds_toArray, List.set_cons_zero, List.set_cons_succ]
            apply plan_no (j := 40) (t := 108) (b := false) (c := true) rfl rfl rfl rfl rfl (by simp) rfl
            simp only [List.setIfInBounds_toArray, List.set_cons_zero, List.set_cons_succ]
            apply plan_no (j := 40) (t := 108) (b := false) (c := true) rfl rfl rfl rfl rfl (by simp) rfl
            simp only [List.setIfInBounds_toArray, List.set_cons_zero, List.set_cons_succ]
            apply plan_no (j := 40) (t := 108) (b := false) (c := true) rfl rfl rfl rfl rfl (by simp) rfl
            simp only [List.setIfInBounds_toArray, List.set_cons_zero, List.set_cons_succ]
            apply plan_no (j := 40) (t := 108) (b := false) (c := true) rfl rfl rfl rfl rfl (by simp) rfl
            simp only [List.setIfInBounds_toArray, List.set_cons_zero, List.set_cons_succ]
            apply plan_no (j := 40) (t := 108) (b := false) (c := true) rfl rfl rfl rfl rfl (by simp) rfl
            simp only [List.setIfInBounds_toArray, List.set_cons_zero, List.set_cons_succ]
            apply plan_no (j := 40) (t := 108) (b := false) (c := true) rfl rfl rfl rfl rfl (by simp) rfl
            simp only [List.setIfInBounds_toArray, List.set_cons_zero, List.set_cons_succ]
            apply plan_no (j := 40) (t := 108) (b := false) (c := true) rfl rfl rfl rfl rfl (by simp) rfl
            simp only [List.setIfInBounds_toArray, List.set_cons_zero, List.set_cons_succ]
            apply plan_no (j := 40) (t := 108) (b := false) (c := true) rfl rfl rfl rfl rfl (by simp) rfl
            simp only [List.setIfInBounds_toArray, List.set_cons_zero, List.set_cons_succ]
            apply plan_no (j := 40) (t := 108) (b := false) (c := true) rfl rfl rfl rfl rfl (by simp) rfl
            simp only [List.setIfInBounds_toArray, List.set_cons_zero, List.set_cons_succ]
            apply plan_no (j := 40) (t := 108) (b := false) (c := true) rfl rfl rfl rfl rfl (by simp) rfl
            simp only [List.setIfInBounds_toArray, List.set_cons_zero, List.set_cons_succ]
            apply plan_no (j := 40) (t := 108) (b := false) (c := true) rfl rfl rfl rfl rfl (by simp) rfl
            simp only [List.setIfInBounds_toArray, List.set_cons_zero, List.set_cons_succ]
            apply plan_no (j := 40) (t := 108) (b := false) (c := true) rfl rfl rfl rfl rfl (by simp) rfl
            simp only [List.setIfInBounds_toArray, List.set_cons_zero, List.set_cons_succ]
            apply plan_no (j := 40) (t := 108) (b := false) (c := true) rfl rfl rfl rfl rfl (by simp) rfl
            simp only [List.setIfInBounds_toArray, List.set_cons_zero, List.set_cons_succ]
            apply plan_no (j := 40) (t := 108) (b := false) (c := true) rfl rfl rfl rfl rfl (by simp) rfl
            simp only [List.setIfInBounds_toArray, List.set_cons_zero, List.set_cons_succ]
            apply plan_gd (j := 23) (t := 91) (b := false) (c := false) rfl rfl rfl rfl rfl (by simp) rfl
            case hy =>
              rintro W' hb'
              clear hb'
              go_simp
              first | done | with_reducible rfl
            simp only [List.setIfInBounds_toArray, List.set_cons_zero, List.set_cons_succ]
            apply plan_gd (j := 13) (t := 81) (b := true) (c := true) rfl rfl rfl rfl rfl (by simp) rfl
            case hy =>
              rintro W' hb'
              clear hb'
              go_simp
              first | done | with_reducible rfl
            simp only [List.setIfInBounds_toArray, List.set_cons_zero, List.set_cons_succ]
            apply plan_gd (j := 10) (t := 78) (b := false) (c := false) rfl rfl rfl rfl rfl (by simp) rfl
            case hy =>
              rintro W' hb'
              clear hb'
              go_simp
              first | done | with_reducible rfl
            simp only [List.setIfInBounds_toArray, List.set_cons_zero, List.set_cons_succ]
            apply plan_take rfl rfl (by rfl)
            case hy =>
              rintro W' hb'
              clear hb'
              go_simp
              first | done | with_reducible rfl
            simp only [List.setIfInBounds_toArray, List.set_cons_zero, List.set_cons_succ]
            refine plan_fin ?_
            gi_wp2_with (fail)
            have k0 := cell_keep (bdrewN W3 1) HK0.out
            have k1 := cell_keep (bdrewN W3 1) HK1.out
            have k2 := cell_keep (bdrewN W3 1) HK2.out
            replace k0 : W3.drew.cell? ⟨X, 0, none⟩ = some (.int .i64 fst) := k0
            replace k1 : W3.drew.cell? ⟨X, 1, none⟩ = some (.int .i64 snd) := k1
            replace k2 : W3.drew.cell? ⟨X, 2, none⟩ = some (.int .i64 len) := k2
            go_wp2_with (fail)
            go_loopw [13, 131] (fun av jv wr => ∃ t : Nat, (t : Int) ≤ len ∧ jv = .int .i64 t ∧ AllO w5.heap.size wr av ((C.map pairI ++ (K.take i).flatMap expB) ++ EX.take t) ∧ BlkK wr X #[.int .i64 fst, .int .i64 snd, .int .i64 len] 54 ∧ Below w5.heap.size w5 wr) (fun _ jv _ => len.toNat - (intOf jv).toNat)
            case atStart => exact ⟨0, by omega, rfl, by rw [List.take_zero, List.append_nil]; exact HO.out.below (bdrewN W3 1), HKB.out.below (bdrewN W3 1), bstep HB3'.out (bdrewN W3 1)⟩
            case round =>
              obtain ⟨wk, rfl⟩ : ∃ wk : World, wk = wr := ⟨_, rfl⟩
              obtain ⟨t, ht, rfl, ho, hbk, hb⟩ := hrel
              have HBK := Lib.hid hb
              have HKK := Lib.hid hbk
              have hsz := hb.size
              clear k0 k1 k2
              have k0 := hbk.cell (i := 0) (u := .int .i64 fst) rfl
              have k1 := hbk.cell (i := 1) (u := .int .i64 snd) rfl
              have k2 := hbk.cell (i := 2) (u := .int .i64 len) rfl
              by_cases htl : (t : Int) < len
              · have hbo := balloc wk (.cells #[.int .i64 (fst + (t : Int)), .int .i64 (snd + (t : Int))] 3)
                have hnw := BlkK.new wk #[.int .i64 (fst + (t : Int)), .int .i64 (snd + (t : Int))] 3
                obtain ⟨vs, hrow, hnx⟩ := ho.ready hsz hbo (p := (fst + (t : Int), snd + (t : Int))) (u := .slice (some ⟨wk.heap.size, 0, none⟩) 2 2) ⟨wk.heap.size, 0, 2, rfl, hnw.cell (i := 0) rfl, hnw.cell (i := 1) rfl, ⟨by simp only; omega, by simp only; omega⟩, ⟨by simp only; omega, by simp only; omega⟩, .inr ⟨_, _, hnw⟩⟩
                obtain ⟨N, hNN⟩ : ∃ N, ((C.map pairI ++ (K.take i).flatMap expB) ++ EX.take t).length = N := ⟨_, rfl⟩
                have hNb : N ≤ 1024 := by rw [← hNN, List.length_append, List.length_append, HEL.out t ht]; omega
                rw [hNN] at hrow hnx
                have HROW := Lib.hid hrow
                have HNXT := Lib.hid hnx
                have HTS := Lib.hid (HTK.out t htl)
                have HNEW := Lib.hid (show ∀ (j : Nat) (u : Value), [Value.slice (some ⟨wk.heap.size, 0, none⟩) 2 2][j]? = some u → ((wk.alloc (.cells #[.int .i64 (fst + (t : Int)), .int .i64 (snd + (t : Int))] 3)).alloc (.cells #[.slice (some ⟨wk.heap.size, 0, none⟩) 2 2] 29)).cell? ((⟨wk.heap.size + 1, 0, none⟩ : Addr).add j) = some u from World.news_of_block (cs := #[.slice (some ⟨wk.heap.size, 0, none⟩) 2 2]) (heap_fresh (by simp)))
                have HB5K := Lib.hid (bstep hb hbo)
                have HKO := Lib.hid (hbk.below hbo)
                have wf : IntKind.i64.wrap (fst + (t : Int)) = fst + (t : Int) := IntWalk.i64_in _ (by omega)
                have ws : IntKind.i64.wrap (snd + (t : Int)) = snd + (t : Int) := IntWalk.i64_in _ (by omega)
                have dj : decide ((t : Int) < len) = true := decide_eq_true htl
                have HJ := Lib.hid htl
                obtain ⟨av', ac', hav⟩ := ho.slice
                cases hav
                rw [hNN]
                rw [hNN] at HROW HNXT
                clear hrow hnx hNN hbo hnw ho hb hbk htl
                go_wp2_with (at_builtin; refine wpList_append_own _ rfl _ _ 25 rfl w5.heap.size 29 ir (.slice none 0 0) 1 24 Tryz.underlying25 hir hr0 hr1 hr2 rfl (by decide) _ _ _ rfl (HROW.out.alloc _) ⟨wk.heap.size + 1, 0, none⟩ 1 1 [.slice (some ⟨wk.heap.size, 0, none⟩) 2 2] rfl rfl HNEW.out (by simp [Value.oneCell']) (by unfold maxLen; omega) (by omega) (by simp; omega) ?_; intro v1 w7 hown1 hgrow1 _; have HO7 := Lib.hid hown1; have HG := Lib.hid hgrow1; clear hown1 hgrow1)
                obtain ⟨j1, j2⟩ := HNXT.out _ _ _ HO7.out HG.out
                have j3 := (HKO.out.below (balloc _ _)).keptE HG.out (HKO.out.apart HROW.out (by decide))
                go_roundw
                case rel => exact ⟨t + 1, by have := HJ.out; omega, by simp, by rw [HTS.out, ← List.append_assoc]; exact j1, j3, HB5K.out.trans j2⟩
                case measure => have := HJ.out; simp [intOf]; omega
              · have hte : (t : Int) = len := by omega
                have dj : decide ((t : Int) < len) = false := decide_eq_false htl
                have hoe := ho
                rw [show EX.take t = EX from List.take_of_length_le (by have := HALL.out; omega), List.append_assoc, ← HKT.out] at hoe
                have HOE := Lib.hid hoe
                clear ho hb hbk hte htl hoe
                go_wp2_with (fail)
                go_roundw
                case rel => exact ⟨i + 1, by omega, by simp, HOE.out, HBK.out⟩
                case measure => simp [intOf]; omega
      · obtain rfl : nb = i := by omega
        rw [List.take_of_length_le (by rw [HNB.out]; exact Nat.le_refl _)] at ho
        have hln : (C.map pairI ++ K.flatMap expB).length = n := by rw [List.length_append]; exact HTOT.out
        obtain ⟨aa', ca', rfl⟩ := ho.slice
        rw [hln] at ho ⊢
        have HST := Lib.hid (sortO wi w5.heap.size n aa' ca' _ ho hln (by omega))
        have HRV := Lib.hid HRP.out
        clear ho hb hln
        go_wp2_with (fail)
        refine HST.out.mono ?_
        rintro e w7 ⟨rfl, ps, hp, hs, hr, hb⟩
        rw [HSP.out ps hp hs] at hr
        have HB7 := Lib.hid (show Below w5.heap.size w5 w7 from HBI.out.trans hb)
        have HSC := Lib.hid (sameCols (rowsP l) (rowsP l) aa' n ca' ap n cp w7 hr (HRP.out.mono (Nat.le_refl _) HB7.out) rfl)
        clear hp hs hr hb
        go_wp2_with (fail)
        refine HSC.out.mono ?_
        rintro e w8 ⟨rfl, hb⟩
        have HB8 := Lib.hid (bstep (bstep HB5.out HB7.out) hb)
        clear hb
        go_wp2_with (fail)
        refine (HAW.out _ HB8.out).mono ?_
        rintro e w9 ⟨rfl, hb⟩
        have HB9 := Lib.hid (bstep HB8.out hb)
        clear hb
        go_wp2_with (fail)
        go_ret
        exact ⟨rfl, HB9.out⟩
end Go.Proofs.YtbahddjbncinbaaGreatDoor
