/-
  Which postings are valid (reference).
-/
import Derived.Test.YtngdmpkoedpgdaaGreatDoorIp
import Derived.Test.YtngdmpkoedpgdaaGreatDoorNc
namespace Go.Proofs.YtngdmpkoedpgdaaGreatDoor
open Go.RowKit Go.Ap Go.Shelf Go.Proofs

attribute [local go_sem] Oper.semAt_some bs_toList empty_toList bs_size bs_extract bl_eq

set_option maxRecDepth 100000 in
set_option maxHeartbeats 16000000 in
theorem validR (p : Post) (a : Option Addr) (k : Nat) (w : World) (hp : PostS w a p) :
    Calls Tryz.prog 165 #[.agg (postV p.1 (.slice a p.2.length k))] w fun e w' => e = .returned (.bool (validB p)) ∧ Below w.heap.size w w' := by
  obtain ⟨⟨wd, sc⟩, l⟩ := p
  obtain ⟨s1, s2, hl⟩ := hp
  simp only at s1 s2 hl ⊢
  have HW := Lib.hid (fun W => isWordR wd W s1)
  have HN := Lib.hid (fun W => nameR sc W s2)
  have HL := Lib.hid hl
  obtain ⟨n, hn⟩ : ∃ n, l.length = n := ⟨_, rfl⟩
  rw [hn] at HL ⊢
  have hsm := HL.out.small
  have V1 := Lib.hid (@validB_w ((wd, sc), l))
  have V2 := Lib.hid (@validB_n ((wd, sc), l))
  have V3 := Lib.hid (@validB_0 ((wd, sc), l))
  have V4 := Lib.hid (@validB_g ((wd, sc), l))
  have V5 := Lib.hid (@validB_l ((wd, sc), l))
  have V6 := Lib.hid (@linesB_no l)
  have V7 := Lib.hid (@linesB_of l)
  simp only [hn] at V3 V4 V5 V6 V7
  obtain ⟨R, hR⟩ : ∃ R, validB ((wd, sc), l) = R := ⟨_, rfl⟩
  simp only [hR] at V1 V2 V3 V4 V5 ⊢
  clear hl s1 s2 hn hR
  obtain ⟨X, hX⟩ : ∃ X, w.heap.size = X := ⟨_, rfl⟩
  have K1 := Lib.hid (show BlkK (w.alloc (.cells #[.string (bs wd), .string (bs sc), .slice a n k] 37)) X #[.string (bs wd), .string (bs sc), .slice a n k] 37 by rw [← hX]; exact BlkK.new w _ _)
  have HB0 := Lib.hid (balloc w (.cells #[.string (bs wd), .string (bs sc), .slice a n k] 37))
  obtain ⟨W0, hW0⟩ : ∃ W, w.alloc (.cells #[.string (bs wd), .string (bs sc), .slice a n k] 37) = W := ⟨_, rfl⟩
  rw [hW0] at K1 HB0
  have ca := K1.out.cell (i := 0) (u := .string (bs wd)) rfl
  unfold postV
  cases hw : isWordB wd
  · rw [hw] at HW
    have HE := Lib.hid (V1.out hw)
    clear hw
    go_enter Tryz.func165, Tryz.ntmps165
    go_wp2_with (fail)
    refine (HW.out _).mono ?_
    rintro e W1 ⟨rfl, hb⟩
    have HB1 := Lib.hid (bstep HB0.out hb)
    clear hb
    go_wp2_with (fail)
    go_ret
    exact ⟨ret_b HE.out.symm, HB1.out⟩
  · rw [hw] at HW
    cases hnm : nameB sc
    · rw [hnm] at HN
      have HE := Lib.hid (V2.out hnm)
      clear hw hnm
      go_enter Tryz.func165, Tryz.ntmps165
      go_wp2_with (fail)
      refine (HW.out _).mono ?_
      rintro e W1 ⟨rfl, hb⟩
      have HB1 := Lib.hid (bstep HB0.out hb)
      have K2 := Lib.hid (K1.out.below hb)
      have cb := K2.out.cell (i := 1) (u := .string (bs sc)) rfl
      clear hb
      go_wp2_with (fail)
      refine (HN.out _).mono ?_
      rintro e W2 ⟨rfl, hb⟩
      have HB2 := Lib.hid (bstep HB1.out hb)
      have cc := (K2.out.below hb).cell (i := 2) (u := .slice a n k) rfl
      clear hb
      go_wp2_with (fail)
      go_ret
      exact ⟨ret_b HE.out.symm, HB2.out⟩
    · rw [hnm] at HN
      by_cases h0 : n = 0
      · have HE := Lib.hid (V3.out h0)
        have d0 : ((n : Int) == 0) = true := by rw [h0]; rfl
        clear hw hnm h0
        go_enter Tryz.func165, Tryz.ntmps165
        go_wp2_with (fail)
        refine (HW.out _).mono ?_
        rintro e W1 ⟨rfl, hb⟩
        have HB1 := Lib.hid (bstep HB0.out hb)
        have K2 := Lib.hid (K1.out.below hb)
        have cb := K2.out.cell (i := 1) (u := .string (bs sc)) rfl
        clear hb
        go_wp2_with (fail)
        refine (HN.out _).mono ?_
        rintro e W2 ⟨rfl, hb⟩
        have HB2 := Lib.hid (bstep HB1.out hb)
        have cc := (K2.out.below hb).cell (i := 2) (u := .slice a n k) rfl
        clear hb
        go_wp2_with (fail)
        go_ret
        exact ⟨ret_b HE.out.symm, HB2.out⟩
      · have d0 : ((n : Int) == 0) = false := by rw [beq_eq_false_iff_ne]; omega
        by_cases h4 : n ≤ 4096
        · have d1 : decide ((4096 : Int) < (n : Int)) = false := by rw [decide_eq_false_iff_not]; omega
          have HE := Lib.hid (V5.out hw hnm (by omega) h4)
          obtain ⟨b, off, rfl, hcs⟩ := HL.out.at (by omega)
          have HCS := Lib.hid hcs
          have HI := Lib.hid (HL.out.i64)
          clear hw hnm h0 hcs
          go_enter Tryz.func165, Tryz.ntmps165
          go_wp2_with (fail)
          refine (HW.out _).mono ?_
          rintro e W1 ⟨rfl, hb⟩
          have HB1 := Lib.hid (bstep HB0.out hb)
          have K2 := Lib.hid (K1.out.below hb)
          have cb := K2.out.cell (i := 1) (u := .string (bs sc)) rfl
          clear hb
          go_wp2_with (fail)
          refine (HN.out _).mono ?_
          rintro e W2 ⟨rfl, hb⟩
          have HB2 := Lib.hid (bstep HB1.out hb)
          have cc := (K2.out.below hb).cell (i := 2) (u := .slice (some ⟨b, off, none⟩) n k) rfl
          clear hb
          go_wp2_with (fail)
          go_loopw [3] (fun kv wr => ∃ i : Nat, i ≤ n ∧ kv = .int .i64 i ∧ Below W2.heap.size W2 wr ∧ ∀ j, j < i → lineB l j = true) (fun kv _ => n - (intOf kv).toNat)
          case atStart => exact ⟨0, Nat.zero_le _, rfl, Below.refl _ _, fun j hj => absurd hj (Nat.not_lt_zero _)⟩
          case round =>
            obtain ⟨wi, rfl⟩ : ∃ wi : World, wi = wr := ⟨_, rfl⟩
            obtain ⟨i, hi, rfl, hbi, hall⟩ := hrel
            have HA := Lib.hid hall
            have HBI := Lib.hid hbi
            have HBW := Lib.hid (bstep HB2.out hbi)
            have c2 := cell_keep hbi cc
            have C2 := Lib.hid c2
            by_cases hlt : i < n
            · have i1 : (i : Int) < (n : Int) := by omega
              have cx := Lib.hid (cell_keep HBW.out (HCS.out i hlt))
              have hix := HI.out i
              have HNO := Lib.hid (V6.out i hlt)
              have HLB := Lib.hid (show lineB l i = (decide (1 ≤ nth l i) && decide (nth l i ≤ 4096) && (decide (i = 0) || decide (nth l (i - 1) < nth l i))) from rfl)
              have HPV := Lib.hid (fun (h : 0 < i) => cell_keep HBW.out (HCS.out (i - 1) (by omega)))
              obtain ⟨x, hx⟩ : ∃ x, nth l i = x := ⟨_, rfl⟩
              rw [hx] at cx hix HLB
              obtain ⟨y, hy⟩ : ∃ y, nth l (i - 1) = y := ⟨_, rfl⟩
              rw [hy] at HPV HLB
              clear hx hy hall hlt hbi
              by_cases g1 : 1 ≤ x
              · by_cases g2 : x ≤ 4096
                · have e1 : decide (x < 1) = false := by rw [decide_eq_false_iff_not]; omega
                  have e2 : decide (4096 < x) = false := by rw [decide_eq_false_iff_not]; omega
                  obtain rfl | ⟨j, rfl⟩ : i = 0 ∨ ∃ j, i = j + 1 := by cases i with | zero => exact .inl rfl | succ j => exact .inr ⟨j, rfl⟩
                  · have HX := Lib.hid (show lineB l 0 = true by rw [HLB.out]; simp [g1, g2])
                    rw [Nat.add_zero] at cx
                    clear g1 g2
                    go_wp2_with (fail)
                    refine (wpIn_wide (n := 20)).1 ?_
                    refine wpIn_region_planN (fun W' => Below wi.heap.size wi W') (.take 0 <| .take 1 <| .take 2 <| .take 3 <| .take 4 <| .take 5 <| .take 6 <| .take 7 <| .take 8 <| .take 9 <| .take 10 <| .take 11 <| .take 12 <| .take 13 <| .take 14 <| .take 15 <| .take 16 <| .take 17 <| .take 18 <| .take 19 <| .take 20 <| .take 21 <| .take 22 <| .take 23 <| .take 24 <| .take 25 <| .take 26 <| .take 27 <| .take 28 <| .take 29 <| .take 30 <| .take 31 <| .fin) (fun _ => trivial) (by kernel_rfl) (by kernel_rfl) (show Below _ wi _ from bdrewN _ 1) ?_
                    apply plan_take rfl rfl (by rfl)
                    case hy =>
                      rintro W' hb'
                      clear hb'
                      go_simp
                      first | done | with_reducible rfl
                    simp only [List.setIfInBounds_toArray, List.set_cons_zero, List.set_cons_succ]
                    apply plan_take rfl rfl (by rfl)
                    case hy =>
                      rintro W' hb'
                      have x2 := cell_keep hb' C2.out
                      have xx := cell_keep hb' cx.out
                      clear hb'
                      go_simp
                      first | done | with_reducible rfl
                    simp only [List.setIfInBounds_toArray, List.set_cons_zero, List.set_cons_succ]
                    iterate 2
                      apply plan_take rfl rfl (by rfl)
                      case hy =>
                        rintro W' hb'
                        clear hb'
                        go_simp
                        first | done | with_reducible rfl
                      simp only [List.setIfInBounds_toArray, List.set_cons_zero, List.set_cons_succ]
                    apply plan_take rfl rfl (by rfl)
                    case hy =>
                      rintro W' hb'
                      have x2 := cell_keep hb' C2.out
                      have xx := cell_keep hb' cx.out
                      clear hb'
                      go_simp
                      first | done | with_reducible rfl
                    simp only [List.setIfInBounds_toArray, List.set_cons_zero, List.set_cons_succ]
                    iterate 2
                      apply plan_take rfl rfl (by rfl)
                      case hy =>
                        rintro W' hb'
                        clear hb'
                        go_simp
                        first | done | with_reducible rfl
                      simp only [List.setIfInBounds_toArray, List.set_cons_zero, List.set_cons_succ]
                    apply plan_gd (j := 6) (t := 39) (b := false) (c := false) rfl rfl rfl rfl rfl (by simp) rfl
                    case hy =>
                      rintro W' hb'
                      clear hb'
                      go_simp
                      first | done | with_reducible rfl
                    simp only [List.setIfInBounds_toArray, List.set_cons_zero, List.set_cons_succ]
                    apply plan_gd (j := 6) (t := 39) (b := false) (c := false) rfl rfl rfl rfl rfl (by simp) rfl
                    case hy =>
                      rintro W' hb'
                      have x2 := cell_keep hb' C2.out
                      have xx := cell_keep hb' cx.out
                      clear hb'
                      go_simp
                      first | done | with_reducible rfl
                    simp only [List.setIfInBounds_toArray, List.set_cons_zero, List.set_cons_succ]
                    iterate 2
                      apply plan_gd (j := 6) (t := 39) (b := false) (c := false) rfl rfl rfl rfl rfl (by simp) rfl
                      case hy =>
                        rintro W' hb'
                        clear hb'
                        go_simp
                        first | done | with_reducible rfl
                      simp only [List.setIfInBounds_toArray, List.set_cons_zero, List.set_cons_succ]
                    apply plan_gd (j := 6) (t := 39) (b := false) (c := false) rfl rfl rfl rfl rfl (by simp) rfl
                    case hy =>
                      rintro W' hb'
                      have x2 := cell_keep hb' C2.out
                      have xx := cell_keep hb' cx.out
                      clear hb'
                      go_simp
                      first | done | with_reducible rfl
                    simp only [List.setIfInBounds_toArray, List.set_cons_zero, List.set_cons_succ]
                    apply plan_gd (j := 6) (t := 39) (b := false) (c := false) rfl rfl rfl rfl rfl (by simp) rfl
                    case hy =>
                      rintro W' hb'
                      clear hb'
                      go_simp
                      first | done | with_reducible rfl
                    simp only [List.setIfInBounds_toArray, List.set_cons_zero, List.set_cons_succ]
                    iterate 2
                      apply plan_take rfl rfl (by rfl)
                      case hy =>
                        rintro W' hb'
                        clear hb'
                        go_simp
                        first | done | with_reducible rfl
                      simp only [List.setIfInBounds_toArray, List.set_cons_zero, List.set_cons_succ]
                    iterate 3
                      apply plan_gd (j := 14) (t := 47) (b := false) (c := false) rfl rfl rfl rfl rfl (by simp) rfl
                      case hy =>
                        rintro W' hb'
                        clear hb'
                        go_simp
                        first | done | with_reducible rfl
                      simp only [List.setIfInBounds_toArray, List.set_cons_zero, List.set_cons_succ]
                    iterate 12
                      apply plan_no (j := 17) (t := 50) (b := false) (c := true) rfl rfl rfl rfl rfl (by simp) rfl
                      simp only [List.setIfInBounds_toArray, List.set_cons_zero, List.set_cons_succ]
                    apply plan_gd (j := 14) (t := 47) (b := false) (c := false) rfl rfl rfl rfl rfl (by simp) rfl
                    case hy =>
                      rintro W' hb'
                      clear hb'
                      go_simp
                      first | done | with_reducible rfl
                    simp only [List.setIfInBounds_toArray, List.set_cons_zero, List.set_cons_succ]
                    apply plan_take rfl rfl (by rfl)
                    case hy =>
                      rintro W' hb'
                      clear hb'
                      go_simp
                      first | done | with_reducible rfl
                    simp only [List.setIfInBounds_toArray, List.set_cons_zero, List.set_cons_succ]
                    refine plan_fin ?_
                    gi_wp2_with (fail)
                    go_wp2_with (fail)
                    exact ⟨⟨0 + 1, by omega, by simp, bstep HBI.out (bdrewN wi 1), fun q hq => (by
                      by_cases hqi : q = 0
                      · subst hqi; exact HX.out
                      · exact HA.out q (by omega))⟩, by simp [intOf]; try omega⟩
                  · have cy := Lib.hid (show wi.cell? ⟨b, off + j, none⟩ = some (.int .i64 y) from HPV.out (by omega))
                    have i2 : (j : Int) < (n : Int) := by omega
                    have i3 : (0 : Int) ≤ (j : Int) + 1 := by omega
                    have i4 : (j : Int) + 1 < (n : Int) := by omega
                    have i5 : (0 : Int) < (j : Int) + 1 := by omega
                    have iw : IntKind.i64.wrap (j : Int) = (j : Int) := by simp [IntKind.wrap, IntKind.bits, IntKind.signed]; omega
                    by_cases g3 : y < x
                    · have HX := Lib.hid (show lineB l (j + 1) = true by rw [HLB.out]; simp [g1, g2, g3])
                      have e3 : decide (x ≤ y) = false := by rw [decide_eq_false_iff_not]; omega
                      clear g1 g2 g3
                      go_wp2_with (fail)
                      refine (wpIn_wide (n := 20)).1 ?_
                      refine wpIn_region_planN (fun W' => Below wi.heap.size wi W') (.take 0 <| .take 1 <| .take 2 <| .take 3 <| .take 4 <| .take 5 <| .take 6 <| .take 7 <| .take 8 <| .take 9 <| .take 10 <| .take 11 <| .take 12 <| .take 13 <| .take 14 <| .take 15 <| .take 16 <| .take 17 <| .take 18 <| .take 19 <| .take 20 <| .take 21 <| .take 22 <| .take 23 <| .take 24 <| .take 25 <| .take 26 <| .take 27 <| .take 28 <| .take 29 <| .take 30 <| .take 31 <| .fin) (fun _ => trivial) (by kernel_rfl) (by kernel_rfl) (show Below _ wi _ from bdrewN _ 1) ?_
                      apply plan_take rfl rfl (by rfl)
                      case hy =>
                        rintro W' hb'
                        clear hb'
                        go_simp
                        first | done | with_reducible rfl
                      simp only [List.setIfInBounds_toArray, List.set_cons_zero, List.set_cons_succ]
                      apply plan_take rfl rfl (by rfl)
                      case hy =>
                        rintro W' hb'
                        have x2 := cell_keep hb' C2.out
                        have xx := cell_keep hb' cx.out
                        have xy := cell_keep hb' cy.out
                        clear hb'
                        go_simp
                        first | done | with_reducible rfl
                      simp only [List.setIfInBounds_toArray, List.set_cons_zero, List.set_cons_succ]
                      iterate 2
                        apply plan_take rfl rfl (by rfl)
                        case hy =>
                          rintro W' hb'
                          clear hb'
                          go_simp
                          first | done | with_reducible rfl
                        simp only [List.setIfInBounds_toArray, List.set_cons_zero, List.set_cons_succ]
                      apply plan_take rfl rfl (by rfl)
                      case hy =>
                        rintro W' hb'
                        have x2 := cell_keep hb' C2.out
                        have xx := cell_keep hb' cx.out
                        have xy := cell_keep hb' cy.out
                        clear hb'
                        go_simp
                        first | done | with_reducible rfl
                      simp only [List.setIfInBounds_toArray, List.set_cons_zero, List.set_cons_succ]
                      iterate 2
                        apply plan_take rfl rfl (by rfl)
                        case hy =>
                          rintro W' hb'
                          clear hb'
                          go_simp
                          first | done | with_reducible rfl
                        simp only [List.setIfInBounds_toArray, List.set_cons_zero, List.set_cons_succ]
                      apply plan_gd (j := 6) (t := 39) (b := false) (c := false) rfl rfl rfl rfl rfl (by simp) rfl
                      case hy =>
                        rintro W' hb'
                        clear hb'
                        go_simp
                        first | done | with_reducible rfl
                      simp only [List.setIfInBounds_toArray, List.set_cons_zero, List.set_cons_succ]
                      apply plan_gd (j := 6) (t := 39) (b := false) (c := false) rfl rfl rfl rfl rfl (by simp) rfl
                      case hy =>
                        rintro W' hb'
                        have x2 := cell_keep hb' C2.out
                        have xx := cell_keep hb' cx.out
                        have xy := cell_keep hb' cy.out
                        clear hb'
                        go_simp
                        first | done | with_reducible rfl
                      simp only [List.setIfInBounds_toArray, List.set_cons_zero, List.set_cons_succ]
                      iterate 2
                        apply plan_gd (j := 6) (t := 39) (b := false) (c := false) rfl rfl rfl rfl rfl (by simp) rfl
                        case hy =>
                          rintro W' hb'
                          clear hb'
                          go_simp
                          first | done | with_reducible rfl
                        simp only [List.setIfInBounds_toArray, List.set_cons_zero, List.set_cons_succ]
                      apply plan_gd (j := 6) (t := 39) (b := false) (c := false) rfl rfl rfl rfl rfl (by simp) rfl
                      case hy =>
                        rintro W' hb'
                        have x2 := cell_keep hb' C2.out
                        have xx := cell_keep hb' cx.out
                        have xy := cell_keep hb' cy.out
                        clear hb'
                        go_simp
                        first | done | with_reducible rfl
                      simp only [List.setIfInBounds_toArray, List.set_cons_zero, List.set_cons_succ]
                      apply plan_gd (j := 6) (t := 39) (b := false) (c := false) rfl rfl rfl rfl rfl (by simp) rfl
                      case hy =>
                        rintro W' hb'
                        clear hb'
                        go_simp
                        first | done | with_reducible rfl
                      simp only [List.setIfInBounds_toArray, List.set_cons_zero, List.set_cons_succ]
                      iterate 2
                        apply plan_take rfl rfl (by rfl)
                        case hy =>
                          rintro W' hb'
                          clear hb'
                          go_simp
                          first | done | with_reducible rfl
                        simp only [List.setIfInBounds_toArray, List.set_cons_zero, List.set_cons_succ]
                      iterate 3
                        apply plan_gd (j := 14) (t := 47) (b := false) (c := false) rfl rfl rfl rfl rfl (by simp) rfl
                        case hy =>
                          rintro W' hb'
                          clear hb'
                          go_simp
                          first | done | with_reducible rfl
                        simp only [List.setIfInBounds_toArray, List.set_cons_zero, List.set_cons_succ]
                      apply plan_gd (j := 17) (t := 50) (b := true) (c := true) rfl rfl rfl rfl rfl (by simp) rfl
                      case hy =>
                        rintro W' hb'
                        clear hb'
                        go_simp
                        first | done | with_reducible rfl
                      simp only [List.setIfInBounds_toArray, List.set_cons_zero, List.set_cons_succ]
                      apply plan_gd (j := 17) (t := 50) (b := true) (c := true) rfl rfl rfl rfl rfl (by simp) rfl
                      case hy =>
                        rintro W' hb'
                        have x2 := cell_keep hb' C2.out
                        have xx := cell_keep hb' cx.out
                        have xy := cell_keep hb' cy.out
                        clear hb'
                        go_simp
                        first | done | with_reducible rfl
                      simp only [List.setIfInBounds_toArray, List.set_cons_zero, List.set_cons_succ]
                      iterate 2
                        apply plan_gd (j := 17) (t := 50) (b := true) (c := true) rfl rfl rfl rfl rfl (by simp) rfl
                        case hy =>
                          rintro W' hb'
                          clear hb'
                          go_simp
                          first | done | with_reducible rfl
                        simp only [List.setIfInBounds_toArray, List.set_cons_zero, List.set_cons_succ]
                      apply plan_gd (j := 17) (t := 50) (b := true) (c := true) rfl rfl rfl rfl rfl (by simp) rfl
                      case hy =>
                        rintro W' hb'
                        have x2 := cell_keep hb' C2.out
                        have xx := cell_keep hb' cx.out
                        have xy := cell_keep hb' cy.out
                        clear hb'
                        go_simp
                        first | done | with_reducible rfl
                      simp only [List.setIfInBounds_toArray, List.set_cons_zero, List.set_cons_succ]
                      apply plan_gd (j := 17) (t := 50) (b := true) (c := true) rfl rfl rfl rfl rfl (by simp) rfl
                      case hy =>
                        rintro W' hb'
                        clear hb'
                        go_simp
                        first | done | with_reducible rfl
                      simp only [List.setIfInBounds_toArray, List.set_cons_zero, List.set_cons_succ]
                      apply plan_gd (j := 17) (t := 50) (b := true) (c := true) rfl rfl rfl rfl rfl (by simp) rfl
                      case hy =>
                        rintro W' hb'
                        have x2 := cell_keep hb' C2.out
                        have xx := cell_keep hb' cx.out
                        have xy := cell_keep hb' cy.out
                        clear hb'
                        go_simp
                        first | done | with_reducible rfl
                      simp only [List.setIfInBounds_toArray, List.set_cons_zero, List.set_cons_succ]
                      iterate 3
                        apply plan_gd (j := 17) (t := 50) (b := true) (c := true) rfl rfl rfl rfl rfl (by simp) rfl
                        case hy =>
                          rintro W' hb'
                          clear hb'
                          go_simp
                          first | done | with_reducible rfl
                        simp only [List.setIfInBounds_toArray, List.set_cons_zero, List.set_cons_succ]
                      apply plan_gd (j := 17) (t := 50) (b := true) (c := true) rfl rfl rfl rfl rfl (by simp) rfl
                      case hy =>
                        rintro W' hb'
                        have x2 := cell_keep hb' C2.out
                        have xx := cell_keep hb' cx.out
                        have xy := cell_keep hb' cy.out
                        clear hb'
                        go_simp
                        first | done | with_reducible rfl
                      simp only [List.setIfInBounds_toArray, List.set_cons_zero, List.set_cons_succ]
                      apply plan_gd (j := 17) (t := 50) (b := true) (c := true) rfl rfl rfl rfl rfl (by simp) rfl
                      case hy =>
                        rintro W' hb'
                        clear hb'
                        go_simp
                        first | done | with_reducible rfl
                      simp only [List.setIfInBounds_toArray, List.set_cons_zero, List.set_cons_succ]
                      apply plan_gd (j := 14) (t := 47) (b := false) (c := false) rfl rfl rfl rfl rfl (by simp) rfl
                      case hy =>
                        rintro W' hb'
                        clear hb'
                        go_simp
                        first | done | with_reducible rfl
                      simp only [List.setIfInBounds_toArray, List.set_cons_zero, List.set_cons_succ]
                      apply plan_take rfl rfl (by rfl)
                      case hy =>
                        rintro W' hb'
                        clear hb'
                        go_simp
                        first | done | with_reducible rfl
                      simp only [List.setIfInBounds_toArray, List.set_cons_zero, List.set_cons_succ]
                      refine plan_fin ?_
                      gi_wp2_with (fail)
                      go_wp2_with (fail)
                      exact ⟨⟨j + 1 + 1, by omega, by simp, bstep HBI.out (bdrewN wi 1), fun q hq => (by
                        by_cases hqi : q = j + 1
                        · subst hqi; exact HX.out
                        · exact HA.out q (by omega))⟩, by simp [intOf]; omega⟩
                    · have HX := Lib.hid (HE.out.trans (HNO.out (by rw [HLB.out]; simp [g3])))
                      have e3 : decide (x ≤ y) = true := by rw [decide_eq_true_eq]; omega
                      clear g1 g2 g3
                      go_wp2_with (fail)
                      refine (wpIn_wide (n := 20)).1 ?_
                      refine wpIn_region_planN (fun W' => Below wi.heap.size wi W') (.take 0 <| .take 1 <| .take 2 <| .take 3 <| .take 4 <| .take 5 <| .take 6 <| .take 7 <| .take 8 <| .take 9 <| .take 10 <| .take 11 <| .take 12 <| .take 13 <| .take 14 <| .take 15 <| .take 16 <| .take 17 <| .take 18 <| .take 19 <| .take 20 <| .take 21 <| .take 22 <| .take 23 <| .take 24 <| .take 25 <| .take 26 <| .take 27 <| .take 28 <| .take 29 <| .take 30 <| .take 31 <| .fin) (fun _ => trivial) (by kernel_rfl) (by kernel_rfl) (show Below _ wi _ from bdrewN _ 1) ?_
                      apply plan_take rfl rfl (by rfl)
                      case hy =>
                        rintro W' hb'
                        clear hb'
                        go_simp
                        first | done | with_reducible rfl
                      simp only [List.setIfInBounds_toArray, List.set_cons_zero, List.set_cons_succ]
                      apply plan_take rfl rfl (by rfl)
                      case hy =>
                        rintro W' hb'
                        have x2 := cell_keep hb' C2.out
                        have xx := cell_keep hb' cx.out
                        have xy := cell_keep hb' cy.out
                        clear hb'
                        go_simp
                        first | done | with_reducible rfl
                      simp only [List.setIfInBounds_toArray, List.set_cons_zero, List.set_cons_succ]
                      iterate 2
                        apply plan_take rfl rfl (by rfl)
                        case hy =>
                          rintro W' hb'
                          clear hb'
                          go_simp
                          first | done | with_reducible rfl
                        simp only [List.setIfInBounds_toArray, List.set_cons_zero, List.set_cons_succ]
                      apply plan_take rfl rfl (by rfl)
                      case hy =>
                        rintro W' hb'
                        have x2 := cell_keep hb' C2.out
                        have xx := cell_keep hb' cx.out
                        have xy := cell_keep hb' cy.out
                        clear hb'
                        go_simp
                        first | done | with_reducible rfl
                      simp only [List.setIfInBounds_toArray, List.set_cons_zero, List.set_cons_succ]
                      iterate 2
                        apply plan_take rfl rfl (by rfl)
                        case hy =>
                          rintro W' hb'
                          clear hb'
                          go_simp
                          first | done | with_reducible rfl
                        simp only [List.setIfInBounds_toArray, List.set_cons_zero, List.set_cons_succ]
                      apply plan_gd (j := 6) (t := 39) (b := false) (c := false) rfl rfl rfl rfl rfl (by simp) rfl
                      case hy =>
                        rintro W' hb'
                        clear hb'
                        go_simp
                        first | done | with_reducible rfl
                      simp only [List.setIfInBounds_toArray, List.set_cons_zero, List.set_cons_succ]
                      apply plan_gd (j := 6) (t := 39) (b := false) (c := false) rfl rfl rfl rfl rfl (by simp) rfl
                      case hy =>
                        rintro W' hb'
                        have x2 := cell_keep hb' C2.out
                        have xx := cell_keep hb' cx.out
                        have xy := cell_keep hb' cy.out
                        clear hb'
                        go_simp
                        first | done | with_reducible rfl
                      simp only [List.setIfInBounds_toArray, List.set_cons_zero, List.set_cons_succ]
                      iterate 2
                        apply plan_gd (j := 6) (t := 39) (b := false) (c := false) rfl rfl rfl rfl rfl (by simp) rfl
                        case hy =>
                          rintro W' hb'
                          clear hb'
                          go_simp
                          first | done | with_reducible rfl
                        simp only [List.setIfInBounds_toArray, List.set_cons_zero, List.set_cons_succ]
                      apply plan_gd (j := 6) (t := 39) (b := false) (c := false) rfl rfl rfl rfl rfl (by simp) rfl
                      case hy =>
                        rintro W' hb'
                        have x2 := cell_keep hb' C2.out
                        have xx := cell_keep hb' cx.out
                        have xy := cell_keep hb' cy.out
                        clear hb'
                        go_simp
                        first | done | with_reducible rfl
                      simp only [List.setIfInBounds_toArray, List.set_cons_zero, List.set_cons_succ]
                      apply plan_gd (j := 6) (t := 39) (b := false) (c := false) rfl rfl rfl rfl rfl (by simp) rfl
                      case hy =>
                        rintro W' hb'
                        clear hb'
                        go_simp
                        first | done | with_reducible rfl
                      simp only [List.setIfInBounds_toArray, List.set_cons_zero, List.set_cons_succ]
                      iterate 2
                        apply plan_take rfl rfl (by rfl)
                        case hy =>
                          rintro W' hb'
                          clear hb'
                          go_simp
                          first | done | with_reducible rfl
                        simp only [List.setIfInBounds_toArray, List.set_cons_zero, List.set_cons_succ]
                      iterate 3
                        apply plan_gd (j := 14) (t := 47) (b := false) (c := false) rfl rfl rfl rfl rfl (by simp) rfl
                        case hy =>
                          rintro W' hb'
                          clear hb'
                          go_simp
                          first | done | with_reducible rfl
                        simp only [List.setIfInBounds_toArray, List.set_cons_zero, List.set_cons_succ]
                      apply plan_gd (j := 17) (t := 50) (b := true) (c := true) rfl rfl rfl rfl rfl (by simp) rfl
                      case hy =>
                        rintro W' hb'
                        clear hb'
                        go_simp
                        first | done | with_reducible rfl
                      simp only [List.setIfInBounds_toArray, List.set_cons_zero, List.set_cons_succ]
                      apply plan_gd (j := 17) (t := 50) (b := true) (c := true) rfl rfl rfl rfl rfl (by simp) rfl
                      case hy =>
                        rintro W' hb'
                        have x2 := cell_keep hb' C2.out
                        have xx := cell_keep hb' cx.out
                        have xy := cell_keep hb' cy.out
                        clear hb'
                        go_simp
                        first | done | with_reducible rfl
                      simp only [List.setIfInBounds_toArray, List.set_cons_zero, List.set_cons_succ]
                      iterate 2
                        apply plan_gd (j := 17) (t := 50) (b := true) (c := true) rfl rfl rfl rfl rfl (by simp) rfl
                        case hy =>
                          rintro W' hb'
                          clear hb'
                          go_simp
                          first | done | with_reducible rfl
                        simp only [List.setIfInBounds_toArray, List.set_cons_zero, List.set_cons_succ]
                      apply plan_gd (j := 17) (t := 50) (b := true) (c := true) rfl rfl rfl rfl rfl (by simp) rfl
                      case hy =>
                        rintro W' hb'
                        have x2 := cell_keep hb' C2.out
                        have xx := cell_keep hb' cx.out
                        have xy := cell_keep hb' cy.out
                        clear hb'
                        go_simp
                        first | done | with_reducible rfl
                      simp only [List.setIfInBounds_toArray, List.set_cons_zero, List.set_cons_succ]
                      apply plan_gd (j := 17) (t := 50) (b := true) (c := true) rfl rfl rfl rfl rfl (by simp) rfl
                      case hy =>
                        rintro W' hb'
                        clear hb'
                        go_simp
                        first | done | with_reducible rfl
                      simp only [List.setIfInBounds_toArray, List.set_cons_zero, List.set_cons_succ]
                      apply plan_gd (j := 17) (t := 50) (b := true) (c := true) rfl rfl rfl rfl rfl (by simp) rfl
                      case hy =>
                        rintro W' hb'
                        have x2 := cell_keep hb' C2.out
                        have xx := cell_keep hb' cx.out
                        have xy := cell_keep hb' cy.out
                        clear hb'
                        go_simp
                        first | done | with_reducible rfl
                      simp only [List.setIfInBounds_toArray, List.set_cons_zero, List.set_cons_succ]
                      iterate 3
                        apply plan_gd (j := 17) (t := 50) (b := true) (c := true) rfl rfl rfl rfl rfl (by simp) rfl
                        case hy =>
                          rintro W' hb'
                          clear hb'
                          go_simp
                          first | done | with_reducible rfl
                        simp only [List.setIfInBounds_toArray, List.set_cons_zero, List.set_cons_succ]
                      apply plan_gd (j := 17) (t := 50) (b := true) (c := true) rfl rfl rfl rfl rfl (by simp) rfl
                      case hy =>
                        rintro W' hb'
                        have x2 := cell_keep hb' C2.out
                        have xx := cell_keep hb' cx.out
                        have xy := cell_keep hb' cy.out
                        clear hb'
                        go_simp
                        first | done | with_reducible rfl
                      simp only [List.setIfInBounds_toArray, List.set_cons_zero, List.set_cons_succ]
                      apply plan_gd (j := 17) (t := 50) (b := true) (c := true) rfl rfl rfl rfl rfl (by simp) rfl
                      case hy =>
                        rintro W' hb'
                        clear hb'
                        go_simp
                        first | done | with_reducible rfl
                      simp only [List.setIfInBounds_toArray, List.set_cons_zero, List.set_cons_succ]
                      apply plan_gd (j := 14) (t := 47) (b := false) (c := false) rfl rfl rfl rfl rfl (by simp) rfl
                      case hy =>
                        rintro W' hb'
                        clear hb'
                        go_simp
                        first | done | with_reducible rfl
                      simp only [List.setIfInBounds_toArray, List.set_cons_zero, List.set_cons_succ]
                      apply plan_take rfl rfl (by rfl)
                      case hy =>
                        rintro W' hb'
                        clear hb'
                        go_simp
                        first | done | with_reducible rfl
                      simp only [List.setIfInBounds_toArray, List.set_cons_zero, List.set_cons_succ]
                      refine plan_fin ?_
                      gi_wp2_with (fail)
                      go_wp2_with (fail)
                      go_ret
                      exact ⟨ret_b HX.out.symm, bstep HBW.out (bdrewN wi 1)⟩
                · have HX := Lib.hid (HE.out.trans (HNO.out (by rw [HLB.out]; simp [g2])))
                  have e1 : decide (x < 1) = false := by rw [decide_eq_false_iff_not]; omega
                  have e2 : decide (4096 < x) = true := by rw [decide_eq_true_eq]; omega
                  clear g1 g2
                  go_wp2_with (fail)
                  refine (wpIn_wide (n := 20)).1 ?_
                  refine wpIn_region_planN (fun W' => Below wi.heap.size wi W') (.take 0 <| .take 1 <| .take 2 <| .take 3 <| .take 4 <| .take 5 <| .take 6 <| .take 7 <| .take 8 <| .take 9 <| .take 10 <| .take 11 <| .take 12 <| .take 13 <| .take 14 <| .take 15 <| .take 16 <| .take 17 <| .take 18 <| .take 19 <| .take 20 <| .take 21 <| .take 22 <| .take 23 <| .take 24 <| .take 25 <| .take 26 <| .take 27 <| .take 28 <| .take 29 <| .take 30 <| .take 31 <| .fin) (fun _ => trivial) (by kernel_rfl) (by kernel_rfl) (show Below _ wi _ from bdrewN _ 1) ?_
                  apply plan_take rfl rfl (by rfl)
                  case hy =>
                    rintro W' hb'
                    clear hb'
                    go_simp
                    first | done | with_reducible rfl
                  simp only [List.setIfInBounds_toArray, List.set_cons_zero, List.set_cons_succ]
                  apply plan_take rfl rfl (by rfl)
                  case hy =>
                    rintro W' hb'
                    have x2 := cell_keep hb' C2.out
                    have xx := cell_keep hb' cx.out
                    clear hb'
                    go_simp
                    first | done | with_reducible rfl
                  simp only [List.setIfInBounds_toArray, List.set_cons_zero, List.set_cons_succ]
                  iterate 2
                    apply plan_take rfl rfl (by rfl)
                    case hy =>
                      rintro W' hb'
                      clear hb'
                      go_simp
                      first | done | with_reducible rfl
                    simp only [List.setIfInBounds_toArray, List.set_cons_zero, List.set_cons_succ]
                  apply plan_take rfl rfl (by rfl)
                  case hy =>
                    rintro W' hb'
                    have x2 := cell_keep hb' C2.out
                    have xx := cell_keep hb' cx.out
                    clear hb'
                    go_simp
                    first | done | with_reducible rfl
                  simp only [List.setIfInBounds_toArray, List.set_cons_zero, List.set_cons_succ]
                  iterate 2
                    apply plan_take rfl rfl (by rfl)
                    case hy =>
                      rintro W' hb'
                      clear hb'
                      go_simp
                      first | done | with_reducible rfl
                    simp only [List.setIfInBounds_toArray, List.set_cons_zero, List.set_cons_succ]
                  apply plan_gd (j := 6) (t := 39) (b := false) (c := false) rfl rfl rfl rfl rfl (by simp) rfl
                  case hy =>
                    rintro W' hb'
                    clear hb'
                    go_simp
                    first | done | with_reducible rfl
                  simp only [List.setIfInBounds_toArray, List.set_cons_zero, List.set_cons_succ]
                  apply plan_gd (j := 6) (t := 39) (b := false) (c := false) rfl rfl rfl rfl rfl (by simp) rfl
                  case hy =>
                    rintro W' hb'
                    have x2 := cell_keep hb' C2.out
                    have xx := cell_keep hb' cx.out
                    clear hb'
                    go_simp
                    first | done | with_reducible rfl
                  simp only [List.setIfInBounds_toArray, List.set_cons_zero, List.set_cons_succ]
                  iterate 2
                    apply plan_gd (j := 6) (t := 39) (b := false) (c := false) rfl rfl rfl rfl rfl (by simp) rfl
                    case hy =>
                      rintro W' hb'
                      clear hb'
                      go_simp
                      first | done | with_reducible rfl
                    simp only [List.setIfInBounds_toArray, List.set_cons_zero, List.set_cons_succ]
                  apply plan_gd (j := 6) (t := 39) (b := false) (c := false) rfl rfl rfl rfl rfl (by simp) rfl
                  case hy =>
                    rintro W' hb'
                    have x2 := cell_keep hb' C2.out
                    have xx := cell_keep hb' cx.out
                    clear hb'
                    go_simp
                    first | done | with_reducible rfl
                  simp only [List.setIfInBounds_toArray, List.set_cons_zero, List.set_cons_succ]
                  apply plan_gd (j := 6) (t := 39) (b := false) (c := false) rfl rfl rfl rfl rfl (by simp) rfl
                  case hy =>
                    rintro W' hb'
                    clear hb'
                    go_simp
                    first | done | with_reducible rfl
                  simp only [List.setIfInBounds_toArray, List.set_cons_zero, List.set_cons_succ]
                  iterate 2
                    apply plan_take rfl rfl (by rfl)
                    case hy =>
                      rintro W' hb'
                      clear hb'
                      go_simp
                      first | done | with_reducible rfl
                    simp only [List.setIfInBounds_toArray, List.set_cons_zero, List.set_cons_succ]
                  iterate 3
                    apply plan_no (j := 14) (t := 47) (b := true) (c := false) rfl rfl rfl rfl rfl (by simp) rfl
                    simp only [List.setIfInBounds_toArray, List.set_cons_zero, List.set_cons_succ]
                  iterate 12
                    apply plan_un (j := 17) (t := 50) rfl rfl rfl rfl rfl (by simp)
                    simp only [List.setIfInBounds_toArray, List.set_cons_zero, List.set_cons_succ]
                  apply plan_no (j := 14) (t := 47) (b := true) (c := false) rfl rfl rfl rfl rfl (by simp) rfl
                  simp only [List.setIfInBounds_toArray, List.set_cons_zero, List.set_cons_succ]
                  apply plan_take rfl rfl (by rfl)
                  case hy =>
                    rintro W' hb'
                    clear hb'
                    go_simp
                    first | done | with_reducible rfl
                  simp only [List.setIfInBounds_toArray, List.set_cons_zero, List.set_cons_succ]
                  refine plan_fin ?_
                  gi_wp2_with (fail)
                  go_wp2_with (fail)
                  go_ret
                  exact ⟨ret_b HX.out.symm, bstep HBW.out (bdrewN wi 1)⟩
              · have HX := Lib.hid (HE.out.trans (HNO.out (by rw [HLB.out]; simp [g1])))
                have e1 : decide (x < 1) = true := by rw [decide_eq_true_eq]; omega
                clear g1
                go_wp2_with (fail)
                refine (wpIn_wide (n := 20)).1 ?_
                refine wpIn_region_planN (fun W' => Below wi.heap.size wi W') (.take 0 <| .take 1 <| .take 2 <| .take 3 <| .take 4 <| .take 5 <| .take 6 <| .take 7 <| .take 8 <| .take 9 <| .take 10 <| .take 11 <| .take 12 <| .take 13 <| .take 14 <| .take 15 <| .take 16 <| .take 17 <| .take 18 <| .take 19 <| .take 20 <| .take 21 <| .take 22 <| .take 23 <| .take 24 <| .take 25 <| .take 26 <| .take 27 <| .take 28 <| .take 29 <| .take 30 <| .take 31 <| .fin) (fun _ => trivial) (by kernel_rfl) (by kernel_rfl) (show Below _ wi _ from bdrewN _ 1) ?_
                apply plan_take rfl rfl (by rfl)
                case hy =>
                  rintro W' hb'
                  clear hb'
                  go_simp
                  first | done | with_reducible rfl
                simp only [List.setIfInBounds_toArray, List.set_cons_zero, List.set_cons_succ]
                apply plan_take rfl rfl (by rfl)
                case hy =>
                  rintro W' hb'
                  have x2 := cell_keep hb' C2.out
                  have xx := cell_keep hb' cx.out
                  clear hb'
                  go_simp
                  first | done | with_reducible rfl
                simp only [List.setIfInBounds_toArray, List.set_cons_zero, List.set_cons_succ]
                iterate 2
                  apply plan_take rfl rfl (by rfl)
                  case hy =>
                    rintro W' hb'
                    clear hb'
                    go_simp
                    first | done | with_reducible rfl
                  simp only [List.setIfInBounds_toArray, List.set_cons_zero, List.set_cons_succ]
                apply plan_take rfl rfl (by rfl)
                case hy =>
                  rintro W' hb'
                  have x2 := cell_keep hb' C2.out
                  have xx := cell_keep hb' cx.out
                  clear hb'
                  go_simp
                  first | done | with_reducible rfl
                simp only [List.setIfInBounds_toArray, List.set_cons_zero, List.set_cons_succ]
                iterate 2
                  apply plan_take rfl rfl (by rfl)
                  case hy =>
                    rintro W' hb'
                    clear hb'
                    go_simp
                    first | done | with_reducible rfl
                  simp only [List.setIfInBounds_toArray, List.set_cons_zero, List.set_cons_succ]
                iterate 6
                  apply plan_no (j := 6) (t := 39) (b := true) (c := false) rfl rfl rfl rfl rfl (by simp) rfl
                  simp only [List.setIfInBounds_toArray, List.set_cons_zero, List.set_cons_succ]
                iterate 2
                  apply plan_take rfl rfl (by rfl)
                  case hy =>
                    rintro W' hb'
                    clear hb'
                    go_simp
                    first | done | with_reducible rfl
                  simp only [List.setIfInBounds_toArray, List.set_cons_zero, List.set_cons_succ]
                iterate 3
                  apply plan_no (j := 14) (t := 47) (b := true) (c := false) rfl rfl rfl rfl rfl (by simp) rfl
                  simp only [List.setIfInBounds_toArray, List.set_cons_zero, List.set_cons_succ]
                iterate 12
                  apply plan_un (j := 17) (t := 50) rfl rfl rfl rfl rfl (by simp)
                  simp only [List.setIfInBounds_toArray, List.set_cons_zero, List.set_cons_succ]
                apply plan_no (j := 14) (t := 47) (b := true) (c := false) rfl rfl rfl rfl rfl (by simp) rfl
                simp only [List.setIfInBounds_toArray, List.set_cons_zero, List.set_cons_succ]
                apply plan_take rfl rfl (by rfl)
                case hy =>
                  rintro W' hb'
                  clear hb'
                  go_simp
                  first | done | with_reducible rfl
                simp only [List.setIfInBounds_toArray, List.set_cons_zero, List.set_cons_succ]
                refine plan_fin ?_
                gi_wp2_with (fail)
                go_wp2_with (fail)
                go_ret
                exact ⟨ret_b HX.out.symm, bstep HBW.out (bdrewN wi 1)⟩
            · obtain rfl : n = i := by omega
              have HX := Lib.hid (HE.out.trans (V7.out hall))
              clear hall
              go_wp2_with (fail)
              go_ret
              exact ⟨ret_b HX.out.symm, HBW.out⟩
        · have d1 : decide ((4096 : Int) < (n : Int)) = true := by rw [decide_eq_true_eq]; omega
          have HE := Lib.hid (V4.out h4)
          clear hw hnm h0 h4
          go_enter Tryz.func165, Tryz.ntmps165
          go_wp2_with (fail)
          refine (HW.out _).mono ?_
          rintro e W1 ⟨rfl, hb⟩
          have HB1 := Lib.hid (bstep HB0.out hb)
          have K2 := Lib.hid (K1.out.below hb)
          have cb := K2.out.cell (i := 1) (u := .string (bs sc)) rfl
          clear hb
          go_wp2_with (fail)
          refine (HN.out _).mono ?_
          rintro e W2 ⟨rfl, hb⟩
          have HB2 := Lib.hid (bstep HB1.out hb)
          have cc := (K2.out.below hb).cell (i := 2) (u := .slice a n k) rfl
          clear hb
          go_wp2_with (fail)
          go_ret
          exact ⟨ret_b HE.out.symm, HB2.out⟩
end Go.Proofs.YtngdmpkoedpgdaaGreatDoor
