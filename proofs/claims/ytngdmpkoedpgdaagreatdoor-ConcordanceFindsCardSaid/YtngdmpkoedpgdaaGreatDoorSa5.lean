/-
  Same of any two lists of postings (reference).
-/
import Derived.Test.YtngdmpkoedpgdaaGreatDoorSm5
import Derived.Test.YtngdmpkoedpgdaaGreatDoorU1
namespace Go.Proofs.YtngdmpkoedpgdaaGreatDoor
open Go.RowKit Go.Ap Go.Shelf Go.Proofs

attribute [local go_sem] Oper.semAt_some bs_toList empty_toList bs_size bs_extract
set_option maxRecDepth 100000 in
set_option maxHeartbeats 4000000 in
theorem sameAny (l l' : List Post) (a : Option Addr) (c : Nat) (a' : Option Addr) (c' : Nat) (n n' : Nat) (w : World) (h : Posts w a n l) (h' : Posts w a' n' l') : Calls Tryz.prog 28 #[.slice a n c, .slice a' n' c'] w fun e w' => e = .returned (.bool (decide (l = l'))) ∧ Below w.heap.size w w' := by
  have hl := h.len
  have hl' := h'.len
  have hsm := h.small
  have hsm' := h'.small
  have HLX := Lib.hid hl
  have HLY := Lib.hid hl'
  have HX := Lib.hid h
  have HY := Lib.hid h'
  obtain ⟨R, hR⟩ : ∃ R, decide (l = l') = R := ⟨_, rfl⟩
  rw [hR]
  have HR := Lib.hid hR
  by_cases hn : n = n'
  · subst hn
    have d0 : ((n : Int) != (n : Int)) = false := by simp
    clear h h' hl hl' hR
    go_enter Tryz.func28, Tryz.ntmps28
    go_wp2_with (fail)
    go_loopw [5] (fun iv wr => ∃ i : Nat, i ≤ n ∧ iv = .int .i64 i ∧ Below w.heap.size w wr ∧ l.take i = l'.take i) (fun iv _ => n - (intOf iv).toNat)
    case atStart => exact ⟨0, Nat.zero_le _, rfl, Below.refl _ _, by simp⟩
    case round =>
      obtain ⟨wi, rfl⟩ : ∃ wi : World, wi = wr := ⟨_, rfl⟩
      obtain ⟨i, hile, rfl, hb, ht⟩ := hrel
      have HB := Lib.hid hb
      have HT := Lib.hid ht
      clear ht
      by_cases hin : i < n
      · obtain ⟨p, b, o, hp, rfl, x1, k1, c0, c1, c2, hps⟩ := (HX.out.mono (Nat.le_refl _) hb).at hin
        obtain ⟨p', b', o', hp', rfl, x1', k1', c0', c1', c2', hps'⟩ := (HY.out.mono (Nat.le_refl _) hb).at hin
        have HP := Lib.hid hp
        have HP' := Lib.hid hp'
        obtain ⟨⟨wd, sc⟩, ln⟩ := p
        obtain ⟨⟨wd', sc'⟩, ln'⟩ := p'
        simp only at c0 c1 c2 c0' c1' c2'
        have HNE := Lib.hid (fun (hne : ((wd, sc), ln) ≠ ((wd', sc'), ln')) => show R = false by rw [← HR.out]; exact decide_eq_false (take_ne hp hp' hne))
        have HSI := Lib.hid (fun W (hw : Below wi.heap.size wi W) => sameI x1 x1' k1 k1' ln.length ln'.length ln ln' W (hps.lines.mono (Nat.le_refl _) hw) (hps'.lines.mono (Nat.le_refl _) hw))
        obtain ⟨q, hq⟩ : ∃ q, ln.length = q := ⟨_, rfl⟩
        obtain ⟨q', hq'⟩ : ∃ q, ln'.length = q := ⟨_, rfl⟩
        rw [hq] at c2 HSI
        rw [hq'] at c2' HSI
        have HC0 := Lib.hid c0
        have HC1 := Lib.hid c1
        have HC2 := Lib.hid c2
        have HD0 := Lib.hid c0'
        have HD1 := Lib.hid c1'
        have HD2 := Lib.hid c2'
        have i1 : (i : Int) < (n : Int) := by omega
        clear hp hp' hps hps' hq hq' hb c0 c1 c2 c0' c1' c2'
        by_cases zw : wd = wd'
        · subst zw
          have z0 : (wd != wd) = false := by simp
          have z0' : (wd == wd) = true := by simp
          by_cases zs : sc = sc'
          · subst zs
            have z1 : (sc != sc) = false := by simp
            have z1' : (sc == sc) = true := by simp
            by_cases zl : ln = ln'
            · subst zl
              rw [decide_eq_true rfl] at HSI
              go_wp2_with (fail)
              refine (wpIn_wide (n := 20)).1 ?_
              refine wpIn_region_planN (fun W' => Below wi.heap.size wi W') (.take 0 <| .take 1 <| .take 2 <| .take 3 <| .take 4 <| .take 5 <| .take 6 <| .take 7 <| .take 8 <| .take 9 <| .take 10 <| .take 11 <| .take 12 <| .take 13 <| .take 14 <| .take 15 <| .take 16 <| .take 17 <| .take 18 <| .take 19 <| .take 20 <| .take 21 <| .take 22 <| .take 23 <| .take 24 <| .take 25 <| .take 26 <| .take 27 <| .take 28 <| .take 29 <| .take 30 <| .take 31 <| .take 32 <| .take 33 <| .take 34 <| .one 35 <| .take 36 <| .take 37 .fin) (fun _ => trivial) (by kernel_rfl) (by kernel_rfl) (show Below _ wi _ from bdrewN _ 1) ?_
              have HSX := Lib.hid (show Below wi.heap.size wi wi.drew from bdrewN _ 1)
              iterate 4
                apply plan_take rfl rfl (by rfl)
                case hy =>
                  rintro W' hb'
                  clear hb'
                  go_simp
                  first | done | with_reducible rfl
                simp only [List.setIfInBounds_toArray, List.set_cons_zero, List.set_cons_succ]
              apply plan_take rfl rfl (by rfl)
              case hy =>
                rintro W' hb'
                have e0 := cell_keep hb' HC0.out
                have e1 := cell_keep hb' HC1.out
                have e2 := cell_keep hb' HC2.out
                have e3 := cell_keep hb' HD0.out
                have e4 := cell_keep hb' HD1.out
                have e5 := cell_keep hb' HD2.out
                clear hb'
                go_simp
                first | done | with_reducible rfl
              simp only [List.setIfInBounds_toArray, List.set_cons_zero, List.set_cons_succ]
              iterate 4
                apply plan_take rfl rfl (by rfl)
                case hy =>
                  rintro W' hb'
                  clear hb'
                  go_simp
                  first | done | with_reducible rfl
                simp only [List.setIfInBounds_toArray, List.set_cons_zero, List.set_cons_succ]
              apply plan_take rfl rfl (by rfl)
              case hy =>
                rintro W' hb'
                have e0 := cell_keep hb' HC0.out
                have e1 := cell_keep hb' HC1.out
                have e2 := cell_keep hb' HC2.out
                have e3 := cell_keep hb' HD0.out
                have e4 := cell_keep hb' HD1.out
                have e5 := cell_keep hb' HD2.out
                clear hb'
                go_simp
                first | done | with_reducible rfl
              simp only [List.setIfInBounds_toArray, List.set_cons_zero, List.set_cons_succ]
              iterate 2
                apply plan_take rfl rfl (by rfl)
                case hy =>
                  rintro W' hb'
                  clear hb'
                  go_simp
                  first | done | with_reducible rfl
                simp only [List.setIfInBounds_toArray, List.set_cons_zero, List.set_cons_succ]
              iterate 4
                apply plan_gd (j := 11) (t := 28) (b := false) (c := false) rfl rfl rfl rfl rfl (by simp) rfl
                case hy =>
                  rintro W' hb'
                  clear hb'
                  go_simp
                  first | done | with_reducible rfl
                simp only [List.setIfInBounds_toArray, List.set_cons_zero, List.set_cons_succ]
              apply plan_gd (j := 11) (t := 28) (b := false) (c := false) rfl rfl rfl rfl rfl (by simp) rfl
              case hy =>
                rintro W' hb'
                have e0 := cell_keep hb' HC0.out
                have e1 := cell_keep hb' HC1.out
                have e2 := cell_keep hb' HC2.out
                have e3 := cell_keep hb' HD0.out
                have e4 := cell_keep hb' HD1.out
                have e5 := cell_keep hb' HD2.out
                clear hb'
                go_simp
                first | done | with_reducible rfl
              simp only [List.setIfInBounds_toArray, List.set_cons_zero, List.set_cons_succ]
              iterate 4
                apply plan_gd (j := 11) (t := 28) (b := false) (c := false) rfl rfl rfl rfl rfl (by simp) rfl
                case hy =>
                  rintro W' hb'
                  clear hb'
                  go_simp
                  first | done | with_reducible rfl
                simp only [List.setIfInBounds_toArray, List.set_cons_zero, List.set_cons_succ]
              apply plan_gd (j := 11) (t := 28) (b := false) (c := false) rfl rfl rfl rfl rfl (by simp) rfl
              case hy =>
                rintro W' hb'
                have e0 := cell_keep hb' HC0.out
                have e1 := cell_keep hb' HC1.out
                have e2 := cell_keep hb' HC2.out
                have e3 := cell_keep hb' HD0.out
                have e4 := cell_keep hb' HD1.out
                have e5 := cell_keep hb' HD2.out
                clear hb'
                go_simp
                first | done | with_reducible rfl
              simp only [List.setIfInBounds_toArray, List.set_cons_zero, List.set_cons_succ]
              apply plan_gd (j := 11) (t := 28) (b := false) (c := false) rfl rfl rfl rfl rfl (by simp) rfl
              case hy =>
                rintro W' hb'
                clear hb'
                go_simp
                first | done | with_reducible rfl
              simp only [List.setIfInBounds_toArray, List.set_cons_zero, List.set_cons_succ]
              iterate 2
                apply plan_take rfl rfl (by rfl)
                case hy =>
                  rintro W' hb'
                  clear hb'
                  go_simp
                  first | done | with_reducible rfl
                simp only [List.setIfInBounds_toArray, List.set_cons_zero, List.set_cons_succ]
              iterate 4
                apply plan_gd (j := 24) (t := 41) (b := false) (c := false) rfl rfl rfl rfl rfl (by simp) rfl
                case hy =>
                  rintro W' hb'
                  clear hb'
                  go_simp
                  first | done | with_reducible rfl
                simp only [List.setIfInBounds_toArray, List.set_cons_zero, List.set_cons_succ]
              apply plan_gd (j := 24) (t := 41) (b := false) (c := false) rfl rfl rfl rfl rfl (by simp) rfl
              case hy =>
                rintro W' hb'
                have e0 := cell_keep hb' HC0.out
                have e1 := cell_keep hb' HC1.out
                have e2 := cell_keep hb' HC2.out
                have e3 := cell_keep hb' HD0.out
                have e4 := cell_keep hb' HD1.out
                have e5 := cell_keep hb' HD2.out
                clear hb'
                go_simp
                first | done | with_reducible rfl
              simp only [List.setIfInBounds_toArray, List.set_cons_zero, List.set_cons_succ]
              iterate 4
                apply plan_gd (j := 24) (t := 41) (b := false) (c := false) rfl rfl rfl rfl rfl (by simp) rfl
                case hy =>
                  rintro W' hb'
                  clear hb'
                  go_simp
                  first | done | with_reducible rfl
                simp only [List.setIfInBounds_toArray, List.set_cons_zero, List.set_cons_succ]
              apply plan_gd (j := 24) (t := 41) (b := false) (c := false) rfl rfl rfl rfl rfl (by simp) rfl
              case hy =>
                rintro W' hb'
                have e0 := cell_keep hb' HC0.out
                have e1 := cell_keep hb' HC1.out
                have e2 := cell_keep hb' HC2.out
                have e3 := cell_keep hb' HD0.out
                have e4 := cell_keep hb' HD1.out
                have e5 := cell_keep hb' HD2.out
                clear hb'
                go_simp
                first | done | with_reducible rfl
              simp only [List.setIfInBounds_toArray, List.set_cons_zero, List.set_cons_succ]
              refine plan_one rfl ?_
              gi_wp2_with (fail)
              refine ⟨trivial, (callsIn_wide.2 (HSI.out _ HSX.out)).mono ?_⟩
              rintro e W9 ⟨rfl, hb9⟩
              have HSX := Lib.hid (bstep HSX.out hb9)
              clear hb9
              gi_wp2_with (fail)
              refine ⟨HSX.out, ?_⟩
              apply plan_gd (j := 24) (t := 41) (b := false) (c := false) rfl rfl rfl rfl rfl (by simp) rfl
              case hy =>
                rintro W' hb'
                clear hb'
                go_simp
                first | done | with_reducible rfl
              simp only [List.setIfInBounds_toArray, List.set_cons_zero, List.set_cons_succ]
              apply plan_take rfl rfl (by rfl)
              case hy =>
                rintro W' hb'
                clear hb'
                go_simp
                first | done | with_reducible rfl
              simp only [List.setIfInBounds_toArray, List.set_cons_zero, List.set_cons_succ]
              refine plan_fin ?_
              gi_wp2_with (fail)
              have HB2 := Lib.hid (bstep HB.out HSX.out)
              go_wp2_with (fail)
              exact ⟨⟨i + 1, by omega, by simp, HB2.out, take_step HP.out HP'.out HT.out rfl⟩, by simp [intOf]; omega⟩
            · rw [decide_eq_false zl] at HSI
              have HE := Lib.hid (HNE.out (by simpa using zl))
              clear zl
              go_wp2_with (fail)
              refine (wpIn_wide (n := 20)).1 ?_
              refine wpIn_region_planN (fun W' => Below wi.heap.size wi W') (.take 0 <| .take 1 <| .take 2 <| .take 3 <| .take 4 <| .take 5 <| .take 6 <| .take 7 <| .take 8 <| .take 9 <| .take 10 <| .take 11 <| .take 12 <| .take 13 <| .take 14 <| .take 15 <| .take 16 <| .take 17 <| .take 18 <| .take 19 <| .take 20 <| .take 21 <| .take 22 <| .take 23 <| .take 24 <| .take 25 <| .take 26 <| .take 27 <| .take 28 <| .take 29 <| .take 30 <| .take 31 <| .take 32 <| .take 33 <| .take 34 <| .one 35 <| .take 36 <| .take 37 .fin) (fun _ => trivial) (by kernel_rfl) (by kernel_rfl) (show Below _ wi _ from bdrewN _ 1) ?_
              have HSX := Lib.hid (show Below wi.heap.size wi wi.drew from bdrewN _ 1)
              iterate 4
                apply plan_take rfl rfl (by rfl)
                case hy =>
                  rintro W' hb'
                  clear hb'
                  go_simp
                  first | done | with_reducible rfl
                simp only [List.setIfInBounds_toArray, List.set_cons_zero, List.set_cons_succ]
              apply plan_take rfl rfl (by rfl)
              case hy =>
                rintro W' hb'
                have e0 := cell_keep hb' HC0.out
                have e1 := cell_keep hb' HC1.out
                have e2 := cell_keep hb' HC2.out
                have e3 := cell_keep hb' HD0.out
                have e4 := cell_keep hb' HD1.out
                have e5 := cell_keep hb' HD2.out
                clear hb'
                go_simp
                first | done | with_reducible rfl
              simp only [List.setIfInBounds_toArray, List.set_cons_zero, List.set_cons_succ]
              iterate 4
                apply plan_take rfl rfl (by rfl)
                case hy =>
                  rintro W' hb'
                  clear hb'
                  go_simp
                  first | done | with_reducible rfl
                simp only [List.setIfInBounds_toArray, List.set_cons_zero, List.set_cons_succ]
              apply plan_take rfl rfl (by rfl)
              case hy =>
                rintro W' hb'
                have e0 := cell_keep hb' HC0.out
                have e1 := cell_keep hb' HC1.out
                have e2 := cell_keep hb' HC2.out
                have e3 := cell_keep hb' HD0.out
                have e4 := cell_keep hb' HD1.out
                have e5 := cell_keep hb' HD2.out
                clear hb'
                go_simp
                first | done | with_reducible rfl
              simp only [List.setIfInBounds_toArray, List.set_cons_zero, List.set_cons_succ]
              iterate 2
                apply plan_take rfl rfl (by rfl)
                case hy =>
                  rintro W' hb'
                  clear hb'
                  go_simp
                  first | done | with_reducible rfl
                simp only [List.setIfInBounds_toArray, List.set_cons_zero, List.set_cons_succ]
              iterate 4
                apply plan_gd (j := 11) (t := 28) (b := false) (c := false) rfl rfl rfl rfl rfl (by simp) rfl
                case hy =>
                  rintro W' hb'
                  clear hb'
                  go_simp
                  first | done | with_reducible rfl
                simp only [List.setIfInBounds_toArray, List.set_cons_zero, List.set_cons_succ]
              apply plan_gd (j := 11) (t := 28) (b := false) (c := false) rfl rfl rfl rfl rfl (by simp) rfl
              case hy =>
                rintro W' hb'
                have e0 := cell_keep hb' HC0.out
                have e1 := cell_keep hb' HC1.out
                have e2 := cell_keep hb' HC2.out
                have e3 := cell_keep hb' HD0.out
                have e4 := cell_keep hb' HD1.out
                have e5 := cell_keep hb' HD2.out
                clear hb'
                go_simp
                first | done | with_reducible rfl
              simp only [List.setIfInBounds_toArray, List.set_cons_zero, List.set_cons_succ]
              iterate 4
                apply plan_gd (j := 11) (t := 28) (b := false) (c := false) rfl rfl rfl rfl rfl (by simp) rfl
                case hy =>
                  rintro W' hb'
                  clear hb'
                  go_simp
                  first | done | with_reducible rfl
                simp only [List.setIfInBounds_toArray, List.set_cons_zero, List.set_cons_succ]
              apply plan_gd (j := 11) (t := 28) (b := false) (c := false) rfl rfl rfl rfl rfl (by simp) rfl
              case hy =>
                rintro W' hb'
                have e0 := cell_keep hb' HC0.out
                have e1 := cell_keep hb' HC1.out
                have e2 := cell_keep hb' HC2.out
                have e3 := cell_keep hb' HD0.out
                have e4 := cell_keep hb' HD1.out
                have e5 := cell_keep hb' HD2.out
                clear hb'
                go_simp
                first | done | with_reducible rfl
              simp only [List.setIfInBounds_toArray, List.set_cons_zero, List.set_cons_succ]
              apply plan_gd (j := 11) (t := 28) (b := false) (c := false) rfl rfl rfl rfl rfl (by simp) rfl
              case hy =>
                rintro W' hb'
                clear hb'
                go_simp
                first | done | with_reducible rfl
              simp only [List.setIfInBounds_toArray, List.set_cons_zero, List.set_cons_succ]
              iterate 2
                apply plan_take rfl rfl (by rfl)
                case hy =>
                  rintro W' hb'
                  clear hb'
                  go_simp
                  first | done | with_reducible rfl
                simp only [List.setIfInBounds_toArray, List.set_cons_zero, List.set_cons_succ]
              iterate 4
                apply plan_gd (j := 24) (t := 41) (b := false) (c := false) rfl rfl rfl rfl rfl (by simp) rfl
                case hy =>
                  rintro W' hb'
                  clear hb'
                  go_simp
                  first | done | with_reducible rfl
                simp only [List.setIfInBounds_toArray, List.set_cons_zero, List.set_cons_succ]
              apply plan_gd (j := 24) (t := 41) (b := false) (c := false) rfl rfl rfl rfl rfl (by simp) rfl
              case hy =>
                rintro W' hb'
                have e0 := cell_keep hb' HC0.out
                have e1 := cell_keep hb' HC1.out
                have e2 := cell_keep hb' HC2.out
                have e3 := cell_keep hb' HD0.out
                have e4 := cell_keep hb' HD1.out
                have e5 := cell_keep hb' HD2.out
                clear hb'
                go_simp
                first | done | with_reducible rfl
              simp only [List.setIfInBounds_toArray, List.set_cons_zero, List.set_cons_succ]
              iterate 4
                apply plan_gd (j := 24) (t := 41) (b := false) (c := false) rfl rfl rfl rfl rfl (by simp) rfl
                case hy =>
                  rintro W' hb'
                  clear hb'
                  go_simp
                  first | done | with_reducible rfl
                simp only [List.setIfInBounds_toArray, List.set_cons_zero, List.set_cons_succ]
              apply plan_gd (j := 24) (t := 41) (b := false) (c := false) rfl rfl rfl rfl rfl (by simp) rfl
              case hy =>
                rintro W' hb'
                have e0 := cell_keep hb' HC0.out
                have e1 := cell_keep hb' HC1.out
                have e2 := cell_keep hb' HC2.out
                have e3 := cell_keep hb' HD0.out
                have e4 := cell_keep hb' HD1.out
                have e5 := cell_keep hb' HD2.out
                clear hb'
                go_simp
                first | done | with_reducible rfl
              simp only [List.setIfInBounds_toArray, List.set_cons_zero, List.set_cons_succ]
              refine plan_one rfl ?_
              gi_wp2_with (fail)
              refine ⟨trivial, (callsIn_wide.2 (HSI.out _ HSX.out)).mono ?_⟩
              rintro e W9 ⟨rfl, hb9⟩
              have HSX := Lib.hid (bstep HSX.out hb9)
              clear hb9
              gi_wp2_with (fail)
              refine ⟨HSX.out, ?_⟩
              apply plan_gd (j := 24) (t := 41) (b := false) (c := false) rfl rfl rfl rfl rfl (by simp) rfl
              case hy =>
                rintro W' hb'
                clear hb'
                go_simp
                first | done | with_reducible rfl
              simp only [List.setIfInBounds_toArray, List.set_cons_zero, List.set_cons_succ]
              apply plan_take rfl rfl (by rfl)
              case hy =>
                rintro W' hb'
                clear hb'
                go_simp
                first | done | with_reducible rfl
              simp only [List.setIfInBounds_toArray, List.set_cons_zero, List.set_cons_succ]
              refine plan_fin ?_
              gi_wp2_with (fail)
              have HB2 := Lib.hid (bstep HB.out HSX.out)
              go_wp2_with (fail)
              go_ret
              exact ⟨ret_b HE.out.symm, HB2.out⟩
          · have z1 : (sc != sc') = true := by rw [bne_iff_ne]; exact zs
            have z1' : (sc == sc') = false := by rw [beq_eq_false_iff_ne]; exact zs
            have HE := Lib.hid (HNE.out (by simp [zs]))
            clear zs
            go_wp2_with (fail)
            refine (wpIn_wide (n := 20)).1 ?_
            refine wpIn_region_planN (fun W' => Below wi.heap.size wi W') (.take 0 <| .take 1 <| .take 2 <| .take 3 <| .take 4 <| .take 5 <| .take 6 <| .take 7 <| .take 8 <| .take 9 <| .take 10 <| .take 11 <| .take 12 <| .take 13 <| .take 14 <| .take 15 <| .take 16 <| .take 17 <| .take 18 <| .take 19 <| .take 20 <| .take 21 <| .take 22 <| .take 23 <| .take 24 <| .take 25 <| .take 26 <| .take 27 <| .take 28 <| .take 29 <| .take 30 <| .take 31 <| .take 32 <| .take 33 <| .take 34 <| .take 35 <| .take 36 <| .take 37 .fin) (fun _ => trivial) (by kernel_rfl) (by kernel_rfl) (show Below _ wi _ from bdrewN _ 1) ?_
            have HSX := Lib.hid (show Below wi.heap.size wi wi.drew from bdrewN _ 1)
            iterate 4
              apply plan_take rfl rfl (by rfl)
              case hy =>
                rintro W' hb'
                clear hb'
                go_simp
                first | done | with_reducible rfl
              simp only [List.setIfInBounds_toArray, List.set_cons_zero, List.set_cons_succ]
            apply plan_take rfl rfl (by rfl)
            case hy =>
              rintro W' hb'
              have e0 := cell_keep hb' HC0.out
              have e1 := cell_keep hb' HC1.out
              have e2 := cell_keep hb' HC2.out
              have e3 := cell_keep hb' HD0.out
              have e4 := cell_keep hb' HD1.out
              have e5 := cell_keep hb' HD2.out
              clear hb'
              go_simp
              first | done | with_reducible rfl
            simp only [List.setIfInBounds_toArray, List.set_cons_zero, List.set_cons_succ]
            iterate 4
              apply plan_take rfl rfl (by rfl)
              case hy =>
                rintro W' hb'
                clear hb'
                go_simp
                first | done | with_reducible rfl
              simp only [List.setIfInBounds_toArray, List.set_cons_zero, List.set_cons_succ]
            apply plan_take rfl rfl (by rfl)
            case hy =>
              rintro W' hb'
              have e0 := cell_keep hb' HC0.out
              have e1 := cell_keep hb' HC1.out
              have e2 := cell_keep hb' HC2.out
              have e3 := cell_keep hb' HD0.out
              have e4 := cell_keep hb' HD1.out
              have e5 := cell_keep hb' HD2.out
              clear hb'
              go_simp
              first | done | with_reducible rfl
            simp only [List.setIfInBounds_toArray, List.set_cons_zero, List.set_cons_succ]
            iterate 2
              apply plan_take rfl rfl (by rfl)
              case hy =>
                rintro W' hb'
                clear hb'
                go_simp
                first | done | with_reducible rfl
              simp only [List.setIfInBounds_toArray, List.set_cons_zero, List.set_cons_succ]
            iterate 4
              apply plan_gd (j := 11) (t := 28) (b := false) (c := false) rfl rfl rfl rfl rfl (by simp) rfl
              case hy =>
                rintro W' hb'
                clear hb'
                go_simp
                first | done | with_reducible rfl
              simp only [List.setIfInBounds_toArray, List.set_cons_zero, List.set_cons_succ]
            apply plan_gd (j := 11) (t := 28) (b := false) (c := false) rfl rfl rfl rfl rfl (by simp) rfl
            case hy =>
              rintro W' hb'
              have e0 := cell_keep hb' HC0.out
              have e1 := cell_keep hb' HC1.out
              have e2 := cell_keep hb' HC2.out
              have e3 := cell_keep hb' HD0.out
              have e4 := cell_keep hb' HD1.out
              have e5 := cell_keep hb' HD2.out
              clear hb'
              go_simp
              first | done | with_reducible rfl
            simp only [List.setIfInBounds_toArray, List.set_cons_zero, List.set_cons_succ]
            iterate 4
              apply plan_gd (j := 11) (t := 28) (b := false) (c := false) rfl rfl rfl rfl rfl (by simp) rfl
              case hy =>
                rintro W' hb'
                clear hb'
                go_simp
                first | done | with_reducible rfl
              simp only [List.setIfInBounds_toArray, List.set_cons_zero, List.set_cons_succ]
            apply plan_gd (j := 11) (t := 28) (b := false) (c := false) rfl rfl rfl rfl rfl (by simp) rfl
            case hy =>
              rintro W' hb'
              have e0 := cell_keep hb' HC0.out
              have e1 := cell_keep hb' HC1.out
              have e2 := cell_keep hb' HC2.out
              have e3 := cell_keep hb' HD0.out
              have e4 := cell_keep hb' HD1.out
              have e5 := cell_keep hb' HD2.out
              clear hb'
              go_simp
              first | done | with_reducible rfl
            simp only [List.setIfInBounds_toArray, List.set_cons_zero, List.set_cons_succ]
            apply plan_gd (j := 11) (t := 28) (b := false) (c := false) rfl rfl rfl rfl rfl (by simp) rfl
            case hy =>
              rintro W' hb'
              clear hb'
              go_simp
              first | done | with_reducible rfl
            simp only [List.setIfInBounds_toArray, List.set_cons_zero, List.set_cons_succ]
            iterate 2
              apply plan_take rfl rfl (by rfl)
              case hy =>
                rintro W' hb'
                clear hb'
                go_simp
                first | done | with_reducible rfl
              simp only [List.setIfInBounds_toArray, List.set_cons_zero, List.set_cons_succ]
            iterate 12
              apply plan_no (j := 24) (t := 41) (b := true) (c := false) rfl rfl rfl rfl rfl (by simp) rfl
              simp only [List.setIfInBounds_toArray, List.set_cons_zero, List.set_cons_succ]
            apply plan_take rfl rfl (by rfl)
            case hy =>
              rintro W' hb'
              clear hb'
              go_simp
              first | done | with_reducible rfl
            simp only [List.setIfInBounds_toArray, List.set_cons_zero, List.set_cons_succ]
            refine plan_fin ?_
            gi_wp2_with (fail)
            go_wp2_with (fail)
            go_ret
            exact ⟨ret_b HE.out.symm, bstep HB.out HSX.out⟩
        · have z0 : (wd != wd') = true := by rw [bne_iff_ne]; exact zw
          have z0' : (wd == wd') = false := by rw [beq_eq_false_iff_ne]; exact zw
          have HE := Lib.hid (HNE.out (by simp [zw]))
          clear zw
          go_wp2_with (fail)
          refine (wpIn_wide (n := 20)).1 ?_
          refine wpIn_region_planN (fun W' => Below wi.heap.size wi W') (.take 0 <| .take 1 <| .take 2 <| .take 3 <| .take 4 <| .take 5 <| .take 6 <| .take 7 <| .take 8 <| .take 9 <| .take 10 <| .take 11 <| .take 12 <| .take 13 <| .take 14 <| .take 15 <| .take 16 <| .take 17 <| .take 18 <| .take 19 <| .take 20 <| .take 21 <| .take 22 <| .take 23 <| .take 24 <| .take 25 <| .take 26 <| .take 27 <| .take 28 <| .take 29 <| .take 30 <| .take 31 <| .take 32 <| .take 33 <| .take 34 <| .take 35 <| .take 36 <| .take 37 .fin) (fun _ => trivial) (by kernel_rfl) (by kernel_rfl) (show Below _ wi _ from bdrewN _ 1) ?_
          have HSX := Lib.hid (show Below wi.heap.size wi wi.drew from bdrewN _ 1)
          iterate 4
            apply plan_take rfl rfl (by rfl)
            case hy =>
              rintro W' hb'
              clear hb'
              go_simp
              first | done | with_reducible rfl
            simp only [List.setIfInBounds_toArray, List.set_cons_zero, List.set_cons_succ]
          apply plan_take rfl rfl (by rfl)
          case hy =>
            rintro W' hb'
            have e0 := cell_keep hb' HC0.out
            have e1 := cell_keep hb' HC1.out
            have e2 := cell_keep hb' HC2.out
            have e3 := cell_keep hb' HD0.out
            have e4 := cell_keep hb' HD1.out
            have e5 := cell_keep hb' HD2.out
            clear hb'
            go_simp
            first | done | with_reducible rfl
          simp only [List.setIfInBounds_toArray, List.set_cons_zero, List.set_cons_succ]
          iterate 4
            apply plan_take rfl rfl (by rfl)
            case hy =>
              rintro W' hb'
              clear hb'
              go_simp
              first | done | with_reducible rfl
            simp only [List.setIfInBounds_toArray, List.set_cons_zero, List.set_cons_succ]
          apply plan_take rfl rfl (by rfl)
          case hy =>
            rintro W' hb'
            have e0 := cell_keep hb' HC0.out
            have e1 := cell_keep hb' HC1.out
            have e2 := cell_keep hb' HC2.out
            have e3 := cell_keep hb' HD0.out
            have e4 := cell_keep hb' HD1.out
            have e5 := cell_keep hb' HD2.out
            clear hb'
            go_simp
            first | done | with_reducible rfl
          simp only [List.setIfInBounds_toArray, List.set_cons_zero, List.set_cons_succ]
          iterate 2
            apply plan_take rfl rfl (by rfl)
            case hy =>
              rintro W' hb'
              clear hb'
              go_simp
              first | done | with_reducible rfl
            simp only [List.setIfInBounds_toArray, List.set_cons_zero, List.set_cons_succ]
          iterate 11
            apply plan_no (j := 11) (t := 28) (b := true) (c := false) rfl rfl rfl rfl rfl (by simp) rfl
            simp only [List.setIfInBounds_toArray, List.set_cons_zero, List.set_cons_succ]
          iterate 2
            apply plan_take rfl rfl (by rfl)
            case hy =>
              rintro W' hb'
              clear hb'
              go_simp
              first | done | with_reducible rfl
            simp only [List.setIfInBounds_toArray, List.set_cons_zero, List.set_cons_succ]
          iterate 12
            apply plan_no (j := 24) (t := 41) (b := true) (c := false) rfl rfl rfl rfl rfl (by simp) rfl
            simp only [List.setIfInBounds_toArray, List.set_cons_zero, List.set_cons_succ]
          apply plan_take rfl rfl (by rfl)
          case hy =>
            rintro W' hb'
            clear hb'
            go_simp
            first | done | with_reducible rfl
          simp only [List.setIfInBounds_toArray, List.set_cons_zero, List.set_cons_succ]
          refine plan_fin ?_
          gi_wp2_with (fail)
          go_wp2_with (fail)
          go_ret
          exact ⟨ret_b HE.out.symm, bstep HB.out HSX.out⟩
      · obtain rfl : i = n := by omega
        have HE := Lib.hid (show R = true by rw [← HR.out]; exact decide_eq_true (take_all HLX.out HLY.out HT.out))
        go_wp2_with (fail)
        go_ret
        exact ⟨ret_b HE.out.symm, HB.out⟩
  · have HE := Lib.hid (show R = false by rw [← hR, decide_eq_false_iff_not]; intro e; exact hn (by rw [← hl, ← hl', e]))
    have dn : ((n : Int) != (n' : Int)) = true := by simp; omega
    clear h h' hR hl hl'
    go_enter Tryz.func28, Tryz.ntmps28
    go_wp2_with (fail)
    go_ret
    exact ⟨ret_b HE.out.symm, Below.refl _ _⟩
end Go.Proofs.YtngdmpkoedpgdaaGreatDoor
