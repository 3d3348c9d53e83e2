/-
  Blocks and Distance of the reference.
-/
import Derived.Test.YtbahddjbncinbaaGreatDoorBs
import Derived.Test.YtbahddjbncinbaaGreatDoorGd
namespace Go.Proofs.YtbahddjbncinbaaGreatDoor
open Go.RowKit Go.Ap Go.Shelf Go.Proofs

attribute [local go_sem] Oper.semAt_some bs_toList empty_toList bs_size bs_extract
set_option maxRecDepth 100000 in
set_option maxHeartbeats 8000000 in
theorem BlocksR (xs ys : List Tok) (a1 : Option Addr) (n1 c1 : Nat) (a2 : Option Addr) (n2 c2 : Nat) (w : World) (h1 : Toks w a1 n1 xs) (h2 : Toks w a2 n2 ys) :
    Calls Tryz.prog 33 #[.slice a1 n1 c1, .slice a2 n2 c2] w (GivesB w (bksE xs ys) (chkT xs ys)) := by
  obtain ⟨i0, hi0, hz0, hz1, hz2⟩ := info_parts infoBk
  have HC := Lib.hid (checkR xs ys a1 n1 c1 a2 n2 c2 w h1 h2)
  by_cases hk : chkT xs ys = 0
  · obtain ⟨g1, g2, g3, g4⟩ := chkT_zero hk
    have HP := Lib.hid (fun W (hb : Below w.heap.size w W) => pairsR xs ys a1 n1 c1 a2 n2 c2 W (Toks.mono h1 (Nat.le_refl _) hb) (Toks.mono h2 (Nat.le_refl _) hb) (fun t ht => (tok_flags (g3 t ht)).1) (fun t ht => (tok_flags (g4 t ht)).1) (by have := h1.len; omega) (by have := h2.len; omega))
    have HE := Lib.hid (show prsE xs ys = pairsL (keysT xs) (keysT ys) by unfold prsE; rw [if_pos hk])
    have hpl := @prsE_len xs ys
    have HLT := Lib.hid (fun p (hp : p ∈ prsE xs ys) => prsE_lt hp)
    have HCE := Lib.hid (show bksE xs ys = blkF (outL (prsE xs ys)) from rfl)
    obtain ⟨l, hll⟩ : ∃ l, prsE xs ys = l := ⟨_, rfl⟩
    rw [hll] at HE hpl HCE HLT
    rw [← HE.out] at HP
    rw [hk] at HC ⊢
    rw [HCE.out]
    clear h1 h2 hk g1 g2 g3 g4 hll
    unfold GivesB
    go_enter Tryz.func33, Tryz.ntmps33
    go_wp2_with (fail)
    refine HC.out.mono ?_
    rintro e wa ⟨rfl, hba⟩
    have HBA := Lib.hid hba
    clear hba
    go_wp2_with (fail)
    refine (HP.out _ HBA.out).mono ?_
    rintro e wb ⟨v, rfl, ho, hb⟩
    obtain ⟨ap, kp, rfl, hr⟩ := ho.rows (by rw [rowsP_len]; omega) rows_two
    rw [rowsP_len] at hr ⊢
    have HCH := Lib.hid (chainedR l ap l.length kp wb hr hpl)
    have HB := Lib.hid (bstep HBA.out hb)
    have HR := Lib.hid hr
    obtain ⟨n, hn⟩ : ∃ n, l.length = n := ⟨_, rfl⟩
    rw [hn] at HCH HR hpl ⊢
    have HN := Lib.hid hn
    clear ho hb hr hn
    go_wp2_with (fail)
    refine HCH.out.mono ?_
    rintro e wc ⟨S, rfl, hS, hb⟩
    obtain ⟨L, hL⟩ : ∃ L, incF (secsL l) = L := ⟨_, rfl⟩
    have HOUT := Lib.hid (show outL l = selF (fun i => !L.contains i) l 0 by unfold outL; rw [hL])
    rw [hL] at hS
    have HS := Lib.hid hS
    have HBC := Lib.hid hb
    have HB2 := Lib.hid (bstep HB.out hb)
    clear hS hb hL
    go_wp2_with (fail)
    go_loopw [9, 10] (fun ov iv wr => ∃ i : Nat, i ≤ n ∧ iv = .int .i64 i ∧ OwnB wr wc.heap.size ov (blkF (selF (fun i => !L.contains i) (l.take i) 0)) ∧ Below wc.heap.size wc wr) (fun _ iv _ => n - (intOf iv).toNat)
    case atStart => exact ⟨0, Nat.zero_le _, rfl, World.ownsRow_nil _ _ _ _, Below.refl _ _⟩
    case round =>
      obtain ⟨wi, rfl⟩ : ∃ wi : World, wi = wr := ⟨_, rfl⟩
      obtain ⟨i, hi, rfl, ho, hb⟩ := hrel
      have HO := Lib.hid ho
      have HBI := Lib.hid hb
      have hsz := hb.size
      by_cases hin : i < n
      · obtain ⟨p, b, o, ab, ao, kr, hp, rfl, q1, q2, q3⟩ := rowAt HR.out hin
        have HC1 := Lib.hid (cell_keep HBC.out q1)
        have HC2 := Lib.hid (cell_keep HBC.out q2)
        have HC3 := Lib.hid (cell_keep HBC.out q3)
        have HQ1 := Lib.hid (cell_keep (bstep HBC.out hb) q1)
        have HQ2 := Lib.hid (cell_keep (bstep HBC.out hb) q2)
        have HQ3 := Lib.hid (cell_keep (bstep HBC.out hb) q3)
        have cs := (HS.out.kept hb).cell (k := i) (by rw [hasB_len]; exact hin)
        rw [hasB_at hin, List.take_length] at cs
        have HTI := Lib.hid (selF_take (p := fun i => !L.contains i) (i := 0) hp)
        have hps := HLT.out p (List.mem_of_getElem? hp)
        have i1 : (i : Int) < (n : Int) := by omega
        obtain ⟨bb, hbb⟩ : ∃ b, L.contains i = b := ⟨_, rfl⟩
        rw [hbb] at cs
        have HBBB := Lib.hid hbb
        clear hp hb hbb q1 q2 q3
        cases bb
        · obtain ⟨OS, hOS⟩ : ∃ OS, selF (fun i => !L.contains i) (l.take i) 0 = OS := ⟨_, rfl⟩
          have HTI2 := Lib.hid (show selF (fun i => !L.contains i) (l.take (i + 1)) 0 = OS ++ [p] by rw [HTI.out, hOS]; simp only [Nat.zero_add, HBBB.out, Bool.not_false, if_true])
          have HSM := Lib.hid (blkF_small (N := 1024) (l := OS) (fun q hq => by
            rw [← hOS] at hq
            have := HLT.out q ((List.take_sublist _ _).subset ((selF_sub _ 0).subset hq))
            omega))
          have hcnt := blkF_count OS
          have hosl : OS.length ≤ 1024 := by rw [← hOS]; have := (selF_sub (p := fun i => !L.contains i) (l.take i) 0).length_le; have := List.length_take_le i l; omega
          rw [hOS] at ho HO
          obtain ⟨av, cv, rfl⟩ := ownB_slice ho
          obtain ⟨BS, hBS⟩ : ∃ BS, blkF OS = BS := ⟨_, rfl⟩
          obtain ⟨m, hm⟩ : ∃ m, BS.length = m := ⟨_, rfl⟩
          have hsn := blkF_snoc OS p
          rw [hBS] at ho HO HSM hcnt hsn ⊢
          rw [hm] at hcnt ho ⊢
          have HML := Lib.hid hm
          have HOW := Lib.hid (show wi.ownsRow wc.heap.size 54 3 (.slice av m cv) m (BS.flatMap blkC) by have := HO.out; unfold OwnB at this; rwa [hm] at this)
          have hmb : m ≤ 1024 := by omega
          rcases hsn with ⟨e1, e2⟩ | ⟨init, d, e1, e2⟩
          · have HE2 := Lib.hid (show blkF (OS ++ [p]) = BS ++ [⟨p.1, p.2, 1⟩] by rw [e2, e1]; rfl)
            have s1 : IntKind.i64.wrap ((m : Int) - 1) = -1 := by rw [show m = 0 by rw [← hm, e1]; rfl]; rfl
            clear e1 e2 ho hOS hBS hm
            go_wp2_with (fail)
            refine (wpIn_wide (n := 20)).1 ?_
            refine wpIn_region_heldN (fun W' => Below wi.heap.size wi W') 42 [0, 1, 2, 3, 4, 5, 6, 7, 8, 9, 10, 11, 12, 13, 14, 15, 16, 17, 18, 19, 20, 21, 22, 23, 24, 25, 26, 27, 28, 29, 30, 31, 32, 33, 34, 35, 36, 37, 38, 39, 40, 41] [] (fun _ => trivial) (by kernel_rfl) (by kernel_rfl) (show Below _ wi _ from bdrewN _ 1) ?_
            clear s1
            iterate 3
              apply wpTakes_consD rfl rfl (by rfl)
              case hy =>
                rintro W' hb'
                have e0 := cell_keep hb' HQ1.out
                have e1 := cell_keep hb' HQ2.out
                have e2 := cell_keep hb' HQ3.out
                clear hb'
                go_simp
                first | done | with_reducible rfl
              simp only [List.setIfInBounds_toArray, List.set_cons_zero, List.set_cons_succ]
            iterate 18
              apply wpTakes_noD (j := 2) (t := 38) (b := false) (c := true) rfl rfl rfl rfl rfl (by simp) rfl
              simp only [List.setIfInBounds_toArray, List.set_cons_zero, List.set_cons_succ]
            iterate 2
              apply wpTakes_consD rfl rfl (by rfl)
              case hy =>
                rintro W' hb'
                have e0 := cell_keep hb' HQ1.out
                have e1 := cell_keep hb' HQ2.out
                have e2 := cell_keep hb' HQ3.out
                clear hb'
                go_simp
                first | done | with_reducible rfl
              simp only [List.setIfInBounds_toArray, List.set_cons_zero, List.set_cons_succ]
            iterate 18
              apply wpTakes_noD (j := 22) (t := 58) (b := false) (c := true) rfl rfl rfl rfl rfl (by simp) rfl
              simp only [List.setIfInBounds_toArray, List.set_cons_zero, List.set_cons_succ]
            iterate 1
              apply wpTakes_consD rfl rfl (by rfl)
              case hy =>
                rintro W' hb'
                have e0 := cell_keep hb' HQ1.out
                have e1 := cell_keep hb' HQ2.out
                have e2 := cell_keep hb' HQ3.out
                clear hb'
                go_simp
                first | done | with_reducible rfl
              simp only [List.setIfInBounds_toArray, List.set_cons_zero, List.set_cons_succ]
            apply wpTakes_nil
            refine wpSeqR_nilN ?_
            gi_wp2_with (fail)
            go_wp2_with (fail)
            refine (wpIn_wide (n := 20)).1 ?_
            refine wpIn_region_heldN (fun W' => Below wc.heap.size wc W') 17 [0, 1, 2, 3, 4, 5, 6, 7, 8, 9, 10, 11, 12, 13] [14, 15, 16] (fun _ => trivial) (by kernel_rfl) (by kernel_rfl) (bstep HBI.out (bstep (bdrewN _ 1) (bdrewN _ 1))) ?_
            iterate 14
              apply wpTakes_consD rfl rfl (by rfl)
              case hy =>
                rintro W' hb'
                have e0 := cell_keep hb' HC1.out
                have e1 := cell_keep hb' HC2.out
                have e2 := cell_keep hb' HC3.out
                clear hb'
                go_simp
                first | done | with_reducible rfl
              simp only [List.setIfInBounds_toArray, List.set_cons_zero, List.set_cons_succ]
            apply wpTakes_nil
            refine wpSeqR_cons rfl ?_
            gi_wp2_with (fail)
            refine ⟨fun _ => bstep HBI.out (bstep (bstep (bdrewN _ 1) (bdrewN _ 1)) (balloc _ _)), ?_⟩
            refine wpSeqR_cons rfl ?_
            refine wpListIn_append_own _ rfl _ _ 46 rfl wc.heap.size 54 i0 (.agg #[.int .i64 0, .int .i64 0, .int .i64 0]) 3 24 Tryz.underlying46 hi0 hz0 hz1 hz2 rfl (by decide) _ _ _ rfl ((owns_below HOW.out (bstep (bdrewN _ 1) (bdrewN _ 1))).alloc _) ⟨wi.heap.size, 0, none⟩ 1 1 [.int .i64 (p.1 : Int), .int .i64 (p.2 : Int), .int .i64 1] rfl rfl (World.news_of_block (cs := #[.int .i64 (p.1 : Int), .int .i64 (p.2 : Int), .int .i64 1]) (heap_fresh rfl)) (by simp [Value.oneCell']) (by unfold maxLen; omega) (by omega) (by simp [World.drew]; omega) ?_
            intro v1 w4 hown hgrow _
            obtain ⟨g9, cap9, rfl⟩ := ownsRow_succ hown
            have j2 : Below wc.heap.size wi w4 := (((Below.refl wc.heap.size wi).trans ((bstep (bdrewN wi 1) (bdrewN _ 1)).mono hsz)).alloc (by simpa [World.drew] using hsz) _).grown hgrow (by simp; omega) fun k hk => (HOW.out.lt k hk).1
            have HJ2 := Lib.hid (HBI.out.trans j2)
            have HWN := Lib.hid hown
            clear hown hgrow j2
            gi_wp2_with (fail)
            refine ⟨fun _ => HJ2.out, ?_⟩
            refine wpSeqR_cons rfl ?_
            gi_wp2_with (fail)
            refine ⟨fun _ => HJ2.out, ?_⟩
            refine wpSeqR_nilN ?_
            gi_wp2_with (fail)
            go_wp2_with (fail)
            go_roundw
            case rel => exact ⟨i + 1, by omega, by simp, by rw [HTI2.out, HE2.out]; unfold OwnB; rw [List.flatMap_append, List.length_append, HML.out]; exact HWN.out, HJ2.out⟩
            case measure => simp [intOf]; omega
          · rw [e1] at ho
            obtain ⟨g, rfl, hmk, hbg, ⟨D0, D1, D2⟩, hfr⟩ := ho.ends
            have hd := HSM.out d (by rw [e1]; simp)
            have hdl := blkF_len (l := OS) (d := d) (by rw [hBS, e1]; simp)
            have HOE := Lib.hid ho
            obtain ⟨k, hk⟩ : ∃ k, init.length = k := ⟨_, rfl⟩
            rw [hk] at hmk D0 D1 D2
            obtain ⟨f, hf⟩ : ∃ f, d.fst = f := ⟨_, rfl⟩
            obtain ⟨s, hs⟩ : ∃ s, d.snd = s := ⟨_, rfl⟩
            obtain ⟨z, hz⟩ : ∃ z, d.len = z := ⟨_, rfl⟩
            rw [hf, hs, hz] at e2
            rw [hf] at D0 hd
            rw [hs] at D1 hd
            rw [hz] at D2 hdl
            have HD0 := Lib.hid D0
            have HD1 := Lib.hid D1
            have HD2 := Lib.hid D2
            have HHK := Lib.hid hk
            have s1 : IntKind.i64.wrap ((m : Int) - 1) = (k : Int) := by rw [show (m : Int) - 1 = (k : Int) by omega]; exact IntWalk.i64_in _ (by omega)
            have w1 : IntKind.i64.wrap (f + z) = f + z := IntWalk.i64_in _ (by omega)
            have w2 : IntKind.i64.wrap (s + z) = s + z := IntWalk.i64_in _ (by omega)
            have i2 : (k : Int) < (m : Int) := by omega
            by_cases hA : (p.1 : Int) = f + z
            · by_cases hB : (p.2 : Int) = s + z
              · have HE3 := Lib.hid (show blkF (OS ++ [p]) = init ++ [⟨d.fst, d.snd, z + 1⟩] by rw [e2, if_pos ⟨hA, hB⟩, hf, hs])
                have d1 : (f + z == (p.1 : Int)) = true := by rw [beq_iff_eq]; omega
                have d2 : (s + z == (p.2 : Int)) = true := by rw [beq_iff_eq]; omega
                have HFR := Lib.hid hfr
                clear e1 e2 ho hOS hBS hm hmk hA hB hf hs hz hk D0 D1 D2 hfr
                go_wp2_with (fail)
                refine (wpIn_wide (n := 20)).1 ?_
                refine wpIn_region_heldN (fun W' => Below wi.heap.size wi W') 42 [0, 1, 2, 3, 4, 5, 6, 7, 8, 9, 10, 11, 12, 13, 14, 15, 16, 17, 18, 19, 20, 21, 22, 23, 24, 25, 26, 27, 28, 29, 30, 31, 32, 33, 34, 35, 36, 37, 38, 39, 40, 41] [] (fun _ => trivial) (by kernel_rfl) (by kernel_rfl) (show Below _ wi _ from bdrewN _ 1) ?_
                clear s1
                iterate 3
                  apply wpTakes_consD rfl rfl (by rfl)
                  case hy =>
                    rintro W' hb'
                    have e0 := cell_keep hb' HQ1.out
                    have e1 := cell_keep hb' HQ2.out
                    have e2 := cell_keep hb' HQ3.out
                    have e3 := cell_keep hb' HD0.out
                    have e4 := cell_keep hb' HD1.out
                    have e5 := cell_keep hb' HD2.out
                    clear hb'
                    go_simp
                    first | done | with_reducible rfl
                  simp only [List.setIfInBounds_toArray, List.set_cons_zero, List.set_cons_succ]
                iterate 18
                  apply wpTakes_gdD (j := 2) (t := 38) (b := true) (c := true) rfl rfl rfl rfl rfl (by simp) rfl
                  case hy =>
                    rintro W' hb'
                    have e0 := cell_keep hb' HQ1.out
                    have e1 := cell_keep hb' HQ2.out
                    have e2 := cell_keep hb' HQ3.out
                    have e3 := cell_keep hb' HD0.out
                    have e4 := cell_keep hb' HD1.out
                    have e5 := cell_keep hb' HD2.out
                    clear hb'
                    go_simp
                    first | done | with_reducible rfl
                  simp only [List.setIfInBounds_toArray, List.set_cons_zero, List.set_cons_succ]
                iterate 2
                  apply wpTakes_consD rfl rfl (by rfl)
                  case hy =>
                    rintro W' hb'
                    have e0 := cell_keep hb' HQ1.out
                    have e1 := cell_keep hb' HQ2.out
                    have e2 := cell_keep hb' HQ3.out
                    have e3 := cell_keep hb' HD0.out
                    have e4 := cell_keep hb' HD1.out
                    have e5 := cell_keep hb' HD2.out
                    clear hb'
                    go_simp
                    first | done | with_reducible rfl
                  simp only [List.setIfInBounds_toArray, List.set_cons_zero, List.set_cons_succ]
                iterate 18
                  apply wpTakes_gdD (j := 22) (t := 58) (b := true) (c := true) rfl rfl rfl rfl rfl (by simp) rfl
                  case hy =>
                    rintro W' hb'
                    have e0 := cell_keep hb' HQ1.out
                    have e1 := cell_keep hb' HQ2.out
                    have e2 := cell_keep hb' HQ3.out
                    have e3 := cell_keep hb' HD0.out
                    have e4 := cell_keep hb' HD1.out
                    have e5 := cell_keep hb' HD2.out
                    clear hb'
                    go_simp
                    first | done | with_reducible rfl
                  simp only [List.setIfInBounds_toArray, List.set_cons_zero, List.set_cons_succ]
                iterate 1
                  apply wpTakes_consD rfl rfl (by rfl)
                  case hy =>
                    rintro W' hb'
                    have e0 := cell_keep hb' HQ1.out
                    have e1 := cell_keep hb' HQ2.out
                    have e2 := cell_keep hb' HQ3.out
                    have e3 := cell_keep hb' HD0.out
                    have e4 := cell_keep hb' HD1.out
                    have e5 := cell_keep hb' HD2.out
                    clear hb'
                    go_simp
                    first | done | with_reducible rfl
                  simp only [List.setIfInBounds_toArray, List.set_cons_zero, List.set_cons_succ]
                clear w1 w2 d1 d2
                apply wpTakes_nil
                refine wpSeqR_nilN ?_
                have kd2 : wi.drew.cell? ⟨g, k * 3 + 2, none⟩ = some (.int .i64 z) := cell_keep (bdrewN wi 1) HD2.out
                have kf : wi.drew.frozen? ⟨g, k * 3 + 2, none⟩ = false := HFR.out _
                have HN3 := Lib.hid (show OwnB ((wi.setCell ⟨g, k * 3 + 2, none⟩ (.int .i64 (z + 1))).drew) wc.heap.size (.slice (some ⟨g, 0, none⟩) m cv) (init ++ [⟨d.fst, d.snd, z + 1⟩]) by
                  have := HOE.out.last (z + 1)
                  rw [HHK.out] at this
                  exact owns_below this (bdrewN _ 1))
                have HB3 := Lib.hid (show Below wc.heap.size wc ((wi.setCell ⟨g, k * 3 + 2, none⟩ (.int .i64 (z + 1))).drew) from bstep (HBI.out.setCell (p := ⟨g, k * 3 + 2, none⟩) hbg _) (bdrewN _ 1))
                gi_wp2_with (fail)
                go_wp2_with (fail)
                go_roundw
                case rel => exact ⟨i + 1, by omega, by simp, by rw [HTI2.out, HE3.out]; exact HN3.out, HB3.out⟩
                case measure => simp [intOf]; omega
              · have HE2 := Lib.hid (show blkF (OS ++ [p]) = BS ++ [⟨p.1, p.2, 1⟩] by rw [e2, if_neg (fun h => hB h.2), e1]; simp)
                have d1 : (f + z == (p.1 : Int)) = true := by rw [beq_iff_eq]; omega
                have d2 : (s + z == (p.2 : Int)) = false := by rw [beq_eq_false_iff_ne]; omega
                clear e1 e2 ho hOS hBS hm hmk hA hB hf hs hz hk D0 D1 D2 hfr
                go_wp2_with (fail)
                refine (wpIn_wide (n := 20)).1 ?_
                refine wpIn_region_heldN (fun W' => Below wi.heap.size wi W') 42 [0, 1, 2, 3, 4, 5, 6, 7, 8, 9, 10, 11, 12, 13, 14, 15, 16, 17, 18, 19, 20, 21, 22, 23, 24, 25, 26, 27, 28, 29, 30, 31, 32, 33, 34, 35, 36, 37, 38, 39, 40, 41] [] (fun _ => trivial) (by kernel_rfl) (by kernel_rfl) (show Below _ wi _ from bdrewN _ 1) ?_
                clear s1
                iterate 3
                  apply wpTakes_consD rfl rfl (by rfl)
                  case hy =>
                    rintro W' hb'
                    have e0 := cell_keep hb' HQ1.out
                    have e1 := cell_keep hb' HQ2.out
                    have e2 := cell_keep hb' HQ3.out
                    have e3 := cell_keep hb' HD0.out
                    have e4 := cell_keep hb' HD1.out
                    have e5 := cell_keep hb' HD2.out
                    clear hb'
                    go_simp
                    first | done | with_reducible rfl
                  simp only [List.setIfInBounds_toArray, List.set_cons_zero, List.set_cons_succ]
                iterate 18
                  apply wpTakes_gdD (j := 2) (t := 38) (b := true) (c := true) rfl rfl rfl rfl rfl (by simp) rfl
                  case hy =>
                    rintro W' hb'
                    have e0 := cell_keep hb' HQ1.out
                    have e1 := cell_keep hb' HQ2.out
                    have e2 := cell_keep hb' HQ3.out
                    have e3 := cell_keep hb' HD0.out
                    have e4 := cell_keep hb' HD1.out
                    have e5 := cell_keep hb' HD2.out
                    clear hb'
                    go_simp
                    first | done | with_reducible rfl
                  simp only [List.setIfInBounds_toArray, List.set_cons_zero, List.set_cons_succ]
                iterate 2
                  apply wpTakes_consD rfl rfl (by rfl)
                  case hy =>
                    rintro W' hb'
                    have e0 := cell_keep hb' HQ1.out
                    have e1 := cell_keep hb' HQ2.out
                    have e2 := cell_keep hb' HQ3.out
                    have e3 := cell_keep hb' HD0.out
                    have e4 := cell_keep hb' HD1.out
                    have e5 := cell_keep hb' HD2.out
                    clear hb'
                    go_simp
                    first | done | with_reducible rfl
                  simp only [List.setIfInBounds_toArray, List.set_cons_zero, List.set_cons_succ]
                iterate 18
                  apply wpTakes_gdD (j := 22) (t := 58) (b := true) (c := true) rfl rfl rfl rfl rfl (by simp) rfl
                  case hy =>
                    rintro W' hb'
                    have e0 := cell_keep hb' HQ1.out
                    have e1 := cell_keep hb' HQ2.out
                    have e2 := cell_keep hb' HQ3.out
                    have e3 := cell_keep hb' HD0.out
                    have e4 := cell_keep hb' HD1.out
                    have e5 := cell_keep hb' HD2.out
                    clear hb'
                    go_simp
                    first | done | with_reducible rfl
                  simp only [List.setIfInBounds_toArray, List.set_cons_zero, List.set_cons_succ]
                iterate 1
                  apply wpTakes_consD rfl rfl (by rfl)
                  case hy =>
                    rintro W' hb'
                    have e0 := cell_keep hb' HQ1.out
                    have e1 := cell_keep hb' HQ2.out
                    have e2 := cell_keep hb' HQ3.out
                    have e3 := cell_keep hb' HD0.out
                    have e4 := cell_keep hb' HD1.out
                    have e5 := cell_keep hb' HD2.out
                    clear hb'
                    go_simp
                    first | done | with_reducible rfl
                  simp only [List.setIfInBounds_toArray, List.set_cons_zero, List.set_cons_succ]
                clear w1 w2 d1 d2
                apply wpTakes_nil
                refine wpSeqR_nilN ?_
                gi_wp2_with (fail)
                go_wp2_with (fail)
                refine (wpIn_wide (n := 20)).1 ?_
                refine wpIn_region_heldN (fun W' => Below wc.heap.size wc W') 17 [0, 1, 2, 3, 4, 5, 6, 7, 8, 9, 10, 11, 12, 13] [14, 15, 16] (fun _ => trivial) (by kernel_rfl) (by kernel_rfl) (bstep HBI.out (bstep (bdrewN _ 1) (bdrewN _ 1))) ?_
                iterate 14
                  apply wpTakes_consD rfl rfl (by rfl)
                  case hy =>
                    rintro W' hb'
                    have e0 := cell_keep hb' HC1.out
                    have e1 := cell_keep hb' HC2.out
                    have e2 := cell_keep hb' HC3.out
                    clear hb'
                    go_simp
                    first | done | with_reducible rfl
                  simp only [List.setIfInBounds_toArray, List.set_cons_zero, List.set_cons_succ]
                apply wpTakes_nil
                refine wpSeqR_cons rfl ?_
                gi_wp2_with (fail)
                refine ⟨fun _ => bstep HBI.out (bstep (bstep (bdrewN _ 1) (bdrewN _ 1)) (balloc _ _)), ?_⟩
                refine wpSeqR_cons rfl ?_
                refine wpListIn_append_own _ rfl _ _ 46 rfl wc.heap.size 54 i0 (.agg #[.int .i64 0, .int .i64 0, .int .i64 0]) 3 24 Tryz.underlying46 hi0 hz0 hz1 hz2 rfl (by decide) _ _ _ rfl ((owns_below HOW.out (bstep (bdrewN _ 1) (bdrewN _ 1))).alloc _) ⟨wi.heap.size, 0, none⟩ 1 1 [.int .i64 (p.1 : Int), .int .i64 (p.2 : Int), .int .i64 1] rfl rfl (World.news_of_block (cs := #[.int .i64 (p.1 : Int), .int .i64 (p.2 : Int), .int .i64 1]) (heap_fresh rfl)) (by simp [Value.oneCell']) (by unfold maxLen; omega) (by omega) (by simp [World.drew]; omega) ?_
                intro v1 w4 hown hgrow _
                obtain ⟨g9, cap9, rfl⟩ := ownsRow_succ hown
                have j2 : Below wc.heap.size wi w4 := (((Below.refl wc.heap.size wi).trans ((bstep (bdrewN wi 1) (bdrewN _ 1)).mono hsz)).alloc (by simpa [World.drew] using hsz) _).grown hgrow (by simp; omega) fun k hk => (HOW.out.lt k hk).1
                have HJ2 := Lib.hid (HBI.out.trans j2)
                have HWN := Lib.hid hown
                clear hown hgrow j2
                gi_wp2_with (fail)
                refine ⟨fun _ => HJ2.out, ?_⟩
                refine wpSeqR_cons rfl ?_
                gi_wp2_with (fail)
                refine ⟨fun _ => HJ2.out, ?_⟩
                refine wpSeqR_nilN ?_
                gi_wp2_with (fail)
                go_wp2_with (fail)
                go_roundw
                case rel => exact ⟨i + 1, by omega, by simp, by rw [HTI2.out, HE2.out]; unfold OwnB; rw [List.flatMap_append, List.length_append, HML.out]; exact HWN.out, HJ2.out⟩
                case measure => simp [intOf]; omega
            · have HE2 := Lib.hid (show blkF (OS ++ [p]) = BS ++ [⟨p.1, p.2, 1⟩] by rw [e2, if_neg (fun h => hA h.1), e1]; simp)
              have d1 : (f + z == (p.1 : Int)) = false := by rw [beq_eq_false_iff_ne]; omega
              clear e1 e2 ho hOS hBS hm hmk hA hf hs hz hk D0 D1 D2 hfr w2
              go_wp2_with (fail)
              refine (wpIn_wide (n := 20)).1 ?_
              refine wpIn_region_heldN (fun W' => Below wi.heap.size wi W') 42 [0, 1, 2, 3, 4, 5, 6, 7, 8, 9, 10, 11, 12, 13, 14, 15, 16, 17, 18, 19, 20, 21, 22, 23, 24, 25, 26, 27, 28, 29, 30, 31, 32, 33, 34, 35, 36, 37, 38, 39, 40, 41] [] (fun _ => trivial) (by kernel_rfl) (by kernel_rfl) (show Below _ wi _ from bdrewN _ 1) ?_
              clear s1
              iterate 3
                apply wpTakes_consD rfl rfl (by rfl)
                case hy =>
                  rintro W' hb'
                  have e0 := cell_keep hb' HQ1.out
                  have e1 := cell_keep hb' HQ2.out
                  have e2 := cell_keep hb' HQ3.out
                  have e3 := cell_keep hb' HD0.out
                  have e4 := cell_keep hb' HD1.out
                  have e5 := cell_keep hb' HD2.out
                  clear hb'
                  go_simp
                  first | done | with_reducible rfl
                simp only [List.setIfInBounds_toArray, List.set_cons_zero, List.set_cons_succ]
              iterate 18
                apply wpTakes_gdD (j := 2) (t := 38) (b := true) (c := true) rfl rfl rfl rfl rfl (by simp) rfl
                case hy =>
                  rintro W' hb'
                  have e0 := cell_keep hb' HQ1.out
                  have e1 := cell_keep hb' HQ2.out
                  have e2 := cell_keep hb' HQ3.out
                  have e3 := cell_keep hb' HD0.out
                  have e4 := cell_keep hb' HD1.out
                  have e5 := cell_keep hb' HD2.out
                  clear hb'
                  go_simp
                  first | done | with_reducible rfl
                simp only [List.setIfInBounds_toArray, List.set_cons_zero, List.set_cons_succ]
              iterate 2
                apply wpTakes_consD rfl rfl (by rfl)
                case hy =>
                  rintro W' hb'
                  have e0 := cell_keep hb' HQ1.out
                  have e1 := cell_keep hb' HQ2.out
                  have e2 := cell_keep hb' HQ3.out
                  have e3 := cell_keep hb' HD0.out
                  have e4 := cell_keep hb' HD1.out
                  have e5 := cell_keep hb' HD2.out
                  clear hb'
                  go_simp
                  first | done | with_reducible rfl
                simp only [List.setIfInBounds_toArray, List.set_cons_zero, List.set_cons_succ]
              iterate 18
                apply wpTakes_noD (j := 22) (t := 58) (b := false) (c := true) rfl rfl rfl rfl rfl (by simp) rfl
                simp only [List.setIfInBounds_toArray, List.set_cons_zero, List.set_cons_succ]
              iterate 1
                apply wpTakes_consD rfl rfl (by rfl)
                case hy =>
                  rintro W' hb'
                  have e0 := cell_keep hb' HQ1.out
                  have e1 := cell_keep hb' HQ2.out
                  have e2 := cell_keep hb' HQ3.out
                  have e3 := cell_keep hb' HD0.out
                  have e4 := cell_keep hb' HD1.out
                  have e5 := cell_keep hb' HD2.out
                  clear hb'
                  go_simp
                  first | done | with_reducible rfl
                simp only [List.setIfInBounds_toArray, List.set_cons_zero, List.set_cons_succ]
              clear w1 d1
              apply wpTakes_nil
              refine wpSeqR_nilN ?_
              gi_wp2_with (fail)
              go_wp2_with (fail)
              refine (wpIn_wide (n := 20)).1 ?_
              refine wpIn_region_heldN (fun W' => Below wc.heap.size wc W') 17 [0, 1, 2, 3, 4, 5, 6, 7, 8, 9, 10, 11, 12, 13] [14, 15, 16] (fun _ => trivial) (by kernel_rfl) (by kernel_rfl) (bstep HBI.out (bstep (bdrewN _ 1) (bdrewN _ 1))) ?_
              iterate 14
                apply wpTakes_consD rfl rfl (by rfl)
                case hy =>
                  rintro W' hb'
                  have e0 := cell_keep hb' HC1.out
                  have e1 := cell_keep hb' HC2.out
                  have e2 := cell_keep hb' HC3.out
                  clear hb'
                  go_simp
                  first | done | with_reducible rfl
                simp only [List.setIfInBounds_toArray, List.set_cons_zero, List.set_cons_succ]
              apply wpTakes_nil
              refine wpSeqR_cons rfl ?_
              gi_wp2_with (fail)
              refine ⟨fun _ => bstep HBI.out (bstep (bstep (bdrewN _ 1) (bdrewN _ 1)) (balloc _ _)), ?_⟩
              refine wpSeqR_cons rfl ?_
              refine wpListIn_append_own _ rfl _ _ 46 rfl wc.heap.size 54 i0 (.agg #[.int .i64 0, .int .i64 0, .int .i64 0]) 3 24 Tryz.underlying46 hi0 hz0 hz1 hz2 rfl (by decide) _ _ _ rfl ((owns_below HOW.out (bstep (bdrewN _ 1) (bdrewN _ 1))).alloc _) ⟨wi.heap.size, 0, none⟩ 1 1 [.int .i64 (p.1 : Int), .int .i64 (p.2 : Int), .int .i64 1] rfl rfl (World.news_of_block (cs := #[.int .i64 (p.1 : Int), .int .i64 (p.2 : Int), .int .i64 1]) (heap_fresh rfl)) (by simp [Value.oneCell']) (by unfold maxLen; omega) (by omega) (by simp [World.drew]; omega) ?_
              intro v1 w4 hown hgrow _
              obtain ⟨g9, cap9, rfl⟩ := ownsRow_succ hown
              have j2 : Below wc.heap.size wi w4 := (((Below.refl wc.heap.size wi).trans ((bstep (bdrewN wi 1) (bdrewN _ 1)).mono hsz)).alloc (by simpa [World.drew] using hsz) _).grown hgrow (by simp; omega) fun k hk => (HOW.out.lt k hk).1
              have HJ2 := Lib.hid (HBI.out.trans j2)
              have HWN := Lib.hid hown
              clear hown hgrow j2
              gi_wp2_with (fail)
              refine ⟨fun _ => HJ2.out, ?_⟩
              refine wpSeqR_cons rfl ?_
              gi_wp2_with (fail)
              refine ⟨fun _ => HJ2.out, ?_⟩
              refine wpSeqR_nilN ?_
              gi_wp2_with (fail)
              go_wp2_with (fail)
              go_roundw
              case rel => exact ⟨i + 1, by omega, by simp, by rw [HTI2.out, HE2.out]; unfold OwnB; rw [List.flatMap_append, List.length_append, HML.out]; exact HWN.out, HJ2.out⟩
              case measure => simp [intOf]; omega
        · clear ho
          go_wp2_with (fail)
          go_roundw
          case rel => exact ⟨i + 1, by omega, by simp, by rw [HTI.out]; simp only [Nat.zero_add, HBBB.out, Bool.not_true, Bool.false_eq_true, if_false, List.append_nil]; exact HO.out, HBI.out⟩
          case measure => simp [intOf]; omega
      · obtain rfl : n = i := by omega
        rw [show l.take n = l from List.take_of_length_le (by rw [HN.out]; exact Nat.le_refl _), ← HOUT.out] at ho
        have HOO := Lib.hid ho
        clear hb ho HO
        go_wp2_with (fail)
        go_ret2
        exact ⟨_, rfl, owns_mono HOO.out HB2.out.size, bstep HB2.out HBI.out⟩
  · have HE := Lib.hid (show bksE xs ys = [] by unfold bksE prsE; rw [if_neg hk]; rfl)
    have dn : (chkT xs ys != 0) = true := by simpa using hk
    obtain ⟨k, hk2⟩ : ∃ k, chkT xs ys = k := ⟨_, rfl⟩
    rw [hk2] at HC dn ⊢
    rw [HE.out]
    clear h1 h2 hk hk2
    unfold GivesB
    go_enter Tryz.func33, Tryz.ntmps33
    go_wp2_with (fail)
    refine HC.out.mono ?_
    rintro e wa ⟨rfl, hba⟩
    have HBA := Lib.hid hba
    clear hba
    go_wp2_with (fail)
    go_ret2
    exact ⟨_, rfl, World.ownsRow_nil _ _ _ _, HBA.out⟩
end Go.Proofs.YtbahddjbncinbaaGreatDoor
