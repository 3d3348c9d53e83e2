/-
  Check (reference) answers as the program's.
-/
import Derived.Test.YtjmebijckcimoaaGreatDoorRf4
namespace Go.Proofs.YtjmebijckcimoaaGreatDoor
open Go.RowKit Go.Ap Go.Shelf Go.Proofs

attribute [local go_sem] Oper.semAt_some bs_toList empty_toList bs_size bs_extract
set_option maxRecDepth 100000 in
set_option maxHeartbeats 8000000 in
theorem checkR30 (ws : List Str) (al : List Vg.Arc) (a1 : Option Addr) (n1 c1 : Nat) (a2 : Option Addr) (n2 c2 : Nat) (w : World) (h : GraphM w a1 n1 a2 n2 ws al) (hn1 : n1 ≤ 4096) (hn2 : n2 ≤ 65536) :
    Calls Tryz.prog 30 #[graphV a1 n1 c1 a2 n2 c2] w fun e w' => e = .returned (.int .i64 (Vg.chkG ws al)) ∧ Below w.heap.size w w' := by
  have hl1 := h.words.len
  have hl2 := h.arcs.len
  have HL1 := Lib.hid hl1
  have HL2 := Lib.hid hl2
  obtain ⟨W4, hW4⟩ : ∃ W4, w.alloc (.cells #[.slice a1 n1 c1, .slice a2 n2 c2] 31) = W4 := ⟨_, rfl⟩
  have HB4 := Lib.hid (show Below w.heap.size w W4 by rw [← hW4]; exact balloc _ _)
  have HBX := Lib.hid (show BoxG W4 w.heap.size a1 n1 c1 a2 n2 c2 by rw [← hW4]; exact BoxG.new w a1 n1 c1 a2 n2 c2)
  have HG := Lib.hid (show GraphM W4 a1 n1 a2 n2 ws al from h.mono (Nat.le_refl _) HB4.out)
  by_cases h2 : n1 < 2
  · rw [chk_small (by rw [hl1]; exact h2)]
    have d0 : (n1 : Int) < 2 := by omega
    clear h hl1 hl2
    unfold graphV
    go_enter Tryz.func30, Tryz.ntmps30
    obtain ⟨k0, k1⟩ := HBX.out
    go_wp2_with (fail)
    go_ret
    exact ⟨rfl, HB4.out⟩
  have HR1 := Lib.hid (chk_words (ws := ws) (al := al) (by rw [hl1]; exact h2) (by rw [hl1]; exact hn1) (by rw [hl2]; exact hn2))
  have HR2 := Lib.hid (chk_arcs (ws := ws) (al := al) (by rw [hl1]; exact h2) (by rw [hl1]; exact hn1) (by rw [hl2]; exact hn2))
  have HR3 := Lib.hid (chk_flows (ws := ws) (al := al) (by rw [hl1]; exact h2) (by rw [hl1]; exact hn1) (by rw [hl2]; exact hn2))
  have HR4 := Lib.hid (chk_conflict (ws := ws) (al := al) (by rw [hl1]; exact h2) (by rw [hl1]; exact hn1) (by rw [hl2]; exact hn2))
  obtain ⟨R, hR⟩ : ∃ R, Vg.chkG ws al = R := ⟨_, rfl⟩
  rw [hR] at HR1 HR2 HR3 HR4 ⊢
  rw [hl1] at HR2 HR3 HR4
  have d0 : ¬((n1 : Int) < 2) := by omega
  have d1 : ¬((4096 : Int) < (n1 : Int)) := by omega
  have d2 : ¬((65536 : Int) < (n2 : Int)) := by omega
  have HN2 := Lib.hid (show 2 ≤ n1 by omega)
  have HARC := Lib.hid (fun (i : Nat) (x : Vg.Arc) (hx : al[i]? = some x) W (hb : Below W4.heap.size W4 W) => arcR57 ws al a1 n1 c1 a2 n2 c2 i x W (HG.out.mono (Nat.le_refl _) hb) hx hn2)
  have HFLO := Lib.hid (fun (hr : ∀ a ∈ al, 0 ≤ a.1.1 ∧ a.1.1 < a.1.2 ∧ a.1.2 < (n1 : Int)) W (hb : Below W4.heap.size W4 W) => flowsR ws al a1 n1 c1 a2 n2 c2 W (HG.out.mono (Nat.le_refl _) hb) hr HN2.out hn1 hn2)
  clear h hl1 hl2 hR h2
  unfold graphV at HARC HFLO ⊢
  go_enter Tryz.func30, Tryz.ntmps30
  obtain ⟨k0, k1⟩ := HBX.out
  go_wp2_with (fail)
  clear k0 k1 d0 d1 d2
  have hwn : IntKind.i64.wrap ((n1 : Int) - 1) = (n1 : Int) - 1 := IntWalk.i64_in _ (by omega)
  go_loopw [3] (fun iv wr => ∃ i : Nat, i ≤ n1 ∧ iv = .int .i64 i ∧ Below W4.heap.size W4 wr ∧ ∀ (j : Nat) (hj : j < ws.length), j < i → (ws[j] = [] ↔ j = 0 ∨ j + 1 = ws.length)) (fun iv _ => n1 - (intOf iv).toNat)
  case atStart => exact ⟨0, Nat.zero_le _, rfl, Below.refl _ _, fun j _ hj => absurd hj (Nat.not_lt_zero _)⟩
  case round =>
    obtain ⟨wi, rfl⟩ : ∃ wi : World, wi = wr := ⟨_, rfl⟩
    obtain ⟨i, hi, rfl, hb, hw⟩ := hrel
    have HW := Lib.hid hw
    have HB := Lib.hid hb
    have HXW := Lib.hid (HBX.out.below hb)
    obtain ⟨k0, k1⟩ := HXW.out
    clear hw
    by_cases hin : i < n1
    case pos =>
      obtain ⟨u, b3, o3, v3, hu, rfl, hc, rfl⟩ := Sl.at (HG.out.mono (Nat.le_refl _) hb).words hin
      have HU := Lib.hid (List.getElem?_eq_some_iff.1 hu)
      have i1 : (i : Int) < (n1 : Int) := by omega
      have HC := Lib.hid (show wi.cell? ⟨b3, o3 + i, none⟩ = some (.string (bs u)) from hc)
      obtain ⟨bu, hbu⟩ : ∃ b, (u == []) = b := ⟨_, rfl⟩
      have hbu2 : u.isEmpty = bu := by rw [← hbu]; cases u <;> rfl
      have HUB := Lib.hid (show u = [] ↔ bu = true by rw [← hbu]; cases u <;> simp)
      have HIN := Lib.hid hin
      clear hu hc hb hi
      by_cases hb0 : i = 0
      · have e0 : ((i : Int) == 0) = true := by rw [hb0]; rfl
        have HI0 := Lib.hid (show (i = 0) = True from eq_true hb0)
        have HI1 := Lib.hid (show True from trivial)
        clear hb0 hin
        cases bu
        case true =>
          go_wp2_with (fail)
          refine (wpIn_wide (n := 20)).1 ?_
          refine wpIn_region_planM (fun W' => BoxG W' w.heap.size (some ⟨b3, o3, none⟩) n1 c1 a2 n2 c2 ∧ W'.cell? ⟨b3, o3 + i, none⟩ = some (.string (bs u))) 17 (.take 0 <| .take 1 <| .take 2 <| .take 3 <| .take 4 <| .take 5 <| .take 6 <| .take 7 <| .take 8 <| .take 9 <| .take 10 <| .take 11 <| .take 12 <| .take 13 <| .take 14 <| .take 15 <| .take 16 <| .fin) (fun _ => trivial) (by kernel_rfl) (by kernel_rfl) (⟨HXW.out.below (bdrewN wi 1), HC.out⟩) ?_
          apply pm_take rfl rfl (by rfl)
          case hy =>
            rintro W' hb'
            clear hb'
            go_simp
            first | done | with_reducible rfl
          simp only [List.setIfInBounds_toArray, List.set_cons_zero, List.set_cons_succ]
          apply pm_take rfl rfl (by rfl)
          case hy =>
            rintro W' hb'
            obtain ⟨g0, g1⟩ := hb'.1
            have g2 := hb'.2
            clear hb'
            go_simp
            first | done | with_reducible rfl
          simp only [List.setIfInBounds_toArray, List.set_cons_zero, List.set_cons_succ]
          iterate 2
            apply pm_take rfl rfl (by rfl)
            case hy =>
              rintro W' hb'
              clear hb'
              go_simp
              first | done | with_reducible rfl
            simp only [List.setIfInBounds_toArray, List.set_cons_zero, List.set_cons_succ]
          apply pm_take rfl rfl (by rfl)
          case hy =>
            rintro W' hb'
            obtain ⟨g0, g1⟩ := hb'.1
            have g2 := hb'.2
            clear hb'
            go_simp
            first | done | with_reducible rfl
          simp only [List.setIfInBounds_toArray, List.set_cons_zero, List.set_cons_succ]
          iterate 4
            apply pm_take rfl rfl (by rfl)
            case hy =>
              rintro W' hb'
              clear hb'
              go_simp
              first | done | with_reducible rfl
            simp only [List.setIfInBounds_toArray, List.set_cons_zero, List.set_cons_succ]
          iterate 6
            apply pm_no (j := 8) (t := 35) (b := true) (c := false) rfl rfl rfl rfl rfl (by simp) rfl
            simp only [List.setIfInBounds_toArray, List.set_cons_zero, List.set_cons_succ]
          iterate 2
            apply pm_take rfl rfl (by rfl)
            case hy =>
              rintro W' hb'
              clear hb'
              go_simp
              first | done | with_reducible rfl
            simp only [List.setIfInBounds_toArray, List.set_cons_zero, List.set_cons_succ]
          refine pm_fin ?_
          gi_wp2_with (fail)
          go_wp2_with (fail)
          go_roundw
          case rel => exact ⟨i + 1, by have := HIN.out; omega, by simp, below_drew' HB.out, fun j hj hji => by
            rcases Nat.lt_or_eq_of_le (Nat.le_of_lt_succ hji) with hlt | rfl
            · exact HW.out j hj hlt
            · rw [HU.out.2, HL1.out, HUB.out]; simp [HI0.out]⟩
          case measure => have := HIN.out; simp [intOf]; omega
        case false =>
          go_wp2_with (fail)
          refine (wpIn_wide (n := 20)).1 ?_
          refine wpIn_region_planM (fun W' => BoxG W' w.heap.size (some ⟨b3, o3, none⟩) n1 c1 a2 n2 c2 ∧ W'.cell? ⟨b3, o3 + i, none⟩ = some (.string (bs u))) 17 (.take 0 <| .take 1 <| .take 2 <| .take 3 <| .take 4 <| .take 5 <| .take 6 <| .take 7 <| .take 8 <| .take 9 <| .take 10 <| .take 11 <| .take 12 <| .take 13 <| .take 14 <| .take 15 <| .take 16 <| .fin) (fun _ => trivial) (by kernel_rfl) (by kernel_rfl) (⟨HXW.out.below (bdrewN wi 1), HC.out⟩) ?_
          apply pm_take rfl rfl (by rfl)
          case hy =>
            rintro W' hb'
            clear hb'
            go_simp
            first | done | with_reducible rfl
          simp only [List.setIfInBounds_toArray, List.set_cons_zero, List.set_cons_succ]
          apply pm_take rfl rfl (by rfl)
          case hy =>
            rintro W' hb'
            obtain ⟨g0, g1⟩ := hb'.1
            have g2 := hb'.2
            clear hb'
            go_simp
            first | done | with_reducible rfl
          simp only [List.setIfInBounds_toArray, List.set_cons_zero, List.set_cons_succ]
          iterate 2
            apply pm_take rfl rfl (by rfl)
            case hy =>
              rintro W' hb'
              clear hb'
              go_simp
              first | done | with_reducible rfl
            simp only [List.setIfInBounds_toArray, List.set_cons_zero, List.set_cons_succ]
          apply pm_take rfl rfl (by rfl)
          case hy =>
            rintro W' hb'
            obtain ⟨g0, g1⟩ := hb'.1
            have g2 := hb'.2
            clear hb'
            go_simp
            first | done | with_reducible rfl
          simp only [List.setIfInBounds_toArray, List.set_cons_zero, List.set_cons_succ]
          iterate 4
            apply pm_take rfl rfl (by rfl)
            case hy =>
              rintro W' hb'
              clear hb'
              go_simp
              first | done | with_reducible rfl
            simp only [List.setIfInBounds_toArray, List.set_cons_zero, List.set_cons_succ]
          iterate 6
            apply pm_no (j := 8) (t := 35) (b := true) (c := false) rfl rfl rfl rfl rfl (by simp) rfl
            simp only [List.setIfInBounds_toArray, List.set_cons_zero, List.set_cons_succ]
          iterate 2
            apply pm_take rfl rfl (by rfl)
            case hy =>
              rintro W' hb'
              clear hb'
              go_simp
              first | done | with_reducible rfl
            simp only [List.setIfInBounds_toArray, List.set_cons_zero, List.set_cons_succ]
          refine pm_fin ?_
          gi_wp2_with (fail)
          go_wp2_with (fail)
          go_ret
          refine ⟨ret_i (HR1.out fun hall => ?_).symm, bstep HB4.out (below_drew' HB.out)⟩
          have := hall i HU.out.1
          rw [HU.out.2, HL1.out, HUB.out] at this
          simp [HI0.out] at this
      have e0 : ((i : Int) == 0) = false := beq_eq_false_iff_ne.2 (by omega)
      have HI0 := Lib.hid (show (i = 0) = False from eq_false hb0)
      by_cases hb1 : i + 1 = n1
      · have e1 : ((i : Int) == (n1 : Int) - 1) = true := by rw [beq_iff_eq]; omega
        have HI1 := Lib.hid (show (i + 1 = n1) = True from eq_true hb1)
        clear hb0 hb1 hin
        cases bu
        case true =>
          go_wp2_with (fail)
          refine (wpIn_wide (n := 20)).1 ?_
          refine wpIn_region_planM (fun W' => BoxG W' w.heap.size (some ⟨b3, o3, none⟩) n1 c1 a2 n2 c2 ∧ W'.cell? ⟨b3, o3 + i, none⟩ = some (.string (bs u))) 17 (.take 0 <| .take 1 <| .take 2 <| .take 3 <| .take 4 <| .take 5 <| .take 6 <| .take 7 <| .take 8 <| .take 9 <| .take 10 <| .take 11 <| .take 12 <| .take 13 <| .take 14 <| .take 15 <| .take 16 <| .fin) (fun _ => trivial) (by kernel_rfl) (by kernel_rfl) (⟨HXW.out.below (bdrewN wi 1), HC.out⟩) ?_
          apply pm_take rfl rfl (by rfl)
          case hy =>
            rintro W' hb'
            clear hb'
            go_simp
            first | done | with_reducible rfl
          simp only [List.setIfInBounds_toArray, List.set_cons_zero, List.set_cons_succ]
          apply pm_take rfl rfl (by rfl)
          case hy =>
            rintro W' hb'
            obtain ⟨g0, g1⟩ := hb'.1
            have g2 := hb'.2
            clear hb'
            go_simp
            first | done | with_reducible rfl
          simp only [List.setIfInBounds_toArray, List.set_cons_zero, List.set_cons_succ]
          iterate 2
            apply pm_take rfl rfl (by rfl)
            case hy =>
              rintro W' hb'
              clear hb'
              go_simp
              first | done | with_reducible rfl
            simp only [List.setIfInBounds_toArray, List.set_cons_zero, List.set_cons_succ]
          apply pm_take rfl rfl (by rfl)
          case hy =>
            rintro W' hb'
            obtain ⟨g0, g1⟩ := hb'.1
            have g2 := hb'.2
            clear hb'
            go_simp
            first | done | with_reducible rfl
          simp only [List.setIfInBounds_toArray, List.set_cons_zero, List.set_cons_succ]
          iterate 4
            apply pm_take rfl rfl (by rfl)
            case hy =>
              rintro W' hb'
              clear hb'
              go_simp
              first | done | with_reducible rfl
            simp only [List.setIfInBounds_toArray, List.set_cons_zero, List.set_cons_succ]
          iterate 2
            apply pm_gd (j := 8) (t := 35) (b := false) (c := false) rfl rfl rfl rfl rfl (by simp) rfl
            case hy =>
              rintro W' hb'
              clear hb'
              go_simp
              first | done | with_reducible rfl
            simp only [List.setIfInBounds_toArray, List.set_cons_zero, List.set_cons_succ]
          apply pm_gd (j := 8) (t := 35) (b := false) (c := false) rfl rfl rfl rfl rfl (by simp) rfl
          case hy =>
            rintro W' hb'
            obtain ⟨g0, g1⟩ := hb'.1
            have g2 := hb'.2
            clear hb'
            go_simp
            first | done | with_reducible rfl
          simp only [List.setIfInBounds_toArray, List.set_cons_zero, List.set_cons_succ]
          iterate 3
            apply pm_gd (j := 8) (t := 35) (b := false) (c := false) rfl rfl rfl rfl rfl (by simp) rfl
            case hy =>
              rintro W' hb'
              clear hb'
              go_simp
              first | done | with_reducible rfl
            simp only [List.setIfInBounds_toArray, List.set_cons_zero, List.set_cons_succ]
          iterate 2
            apply pm_take rfl rfl (by rfl)
            case hy =>
              rintro W' hb'
              clear hb'
              go_simp
              first | done | with_reducible rfl
            simp only [List.setIfInBounds_toArray, List.set_cons_zero, List.set_cons_succ]
          refine pm_fin ?_
          gi_wp2_with (fail)
          go_wp2_with (fail)
          go_roundw
          case rel => exact ⟨i + 1, by have := HIN.out; omega, by simp, below_drew' HB.out, fun j hj hji => by
            rcases Nat.lt_or_eq_of_le (Nat.le_of_lt_succ hji) with hlt | rfl
            · exact HW.out j hj hlt
            · rw [HU.out.2, HL1.out, HUB.out]; simp [HI0.out, HI1.out]⟩
          case measure => have := HIN.out; simp [intOf]; omega
        case false =>
          go_wp2_with (fail)
          refine (wpIn_wide (n := 20)).1 ?_
          refine wpIn_region_planM (fun W' => BoxG W' w.heap.size (some ⟨b3, o3, none⟩) n1 c1 a2 n2 c2 ∧ W'.cell? ⟨b3, o3 + i, none⟩ = some (.string (bs u))) 17 (.take 0 <| .take 1 <| .take 2 <| .take 3 <| .take 4 <| .take 5 <| .take 6 <| .take 7 <| .take 8 <| .take 9 <| .take 10 <| .take 11 <| .take 12 <| .take 13 <| .take 14 <| .take 15 <| .take 16 <| .fin) (fun _ => trivial) (by kernel_rfl) (by kernel_rfl) (⟨HXW.out.below (bdrewN wi 1), HC.out⟩) ?_
          apply pm_take rfl rfl (by rfl)
          case hy =>
            rintro W' hb'
            clear hb'
            go_simp
            first | done | with_reducible rfl
          simp only [List.setIfInBounds_toArray, List.set_cons_zero, List.set_cons_succ]
          apply pm_take rfl rfl (by rfl)
          case hy =>
            rintro W' hb'
            obtain ⟨g0, g1⟩ := hb'.1
            have g2 := hb'.2
            clear hb'
            go_simp
            first | done | with_reducible rfl
          simp only [List.setIfInBounds_toArray, List.set_cons_zero, List.set_cons_succ]
          iterate 2
            apply pm_take rfl rfl (by rfl)
            case hy =>
              rintro W' hb'
              clear hb'
              go_simp
              first | done | with_reducible rfl
            simp only [List.setIfInBounds_toArray, List.set_cons_zero, List.set_cons_succ]
          apply pm_take rfl rfl (by rfl)
          case hy =>
            rintro W' hb'
            obtain ⟨g0, g1⟩ := hb'.1
            have g2 := hb'.2
            clear hb'
            go_simp
            first | done | with_reducible rfl
          simp only [List.setIfInBounds_toArray, List.set_cons_zero, List.set_cons_succ]
          iterate 4
            apply pm_take rfl rfl (by rfl)
            case hy =>
              rintro W' hb'
              clear hb'
              go_simp
              first | done | with_reducible rfl
            simp only [List.setIfInBounds_toArray, List.set_cons_zero, List.set_cons_succ]
          iterate 2
            apply pm_gd (j := 8) (t := 35) (b := false) (c := false) rfl rfl rfl rfl rfl (by simp) rfl
            case hy =>
              rintro W' hb'
              clear hb'
              go_simp
              first | done | with_reducible rfl
            simp only [List.setIfInBounds_toArray, List.set_cons_zero, List.set_cons_succ]
          apply pm_gd (j := 8) (t := 35) (b := false) (c := false) rfl rfl rfl rfl rfl (by simp) rfl
          case hy =>
            rintro W' hb'
            obtain ⟨g0, g1⟩ := hb'.1
            have g2 := hb'.2
            clear hb'
            go_simp
            first | done | with_reducible rfl
          simp only [List.setIfInBounds_toArray, List.set_cons_zero, List.set_cons_succ]
          iterate 3
            apply pm_gd (j := 8) (t := 35) (b := false) (c := false) rfl rfl rfl rfl rfl (by simp) rfl
            case hy =>
              rintro W' hb'
              clear hb'
              go_simp
              first | done | with_reducible rfl
            simp only [List.setIfInBounds_toArray, List.set_cons_zero, List.set_cons_succ]
          iterate 2
            apply pm_take rfl rfl (by rfl)
            case hy =>
              rintro W' hb'
              clear hb'
              go_simp
              first | done | with_reducible rfl
            simp only [List.setIfInBounds_toArray, List.set_cons_zero, List.set_cons_succ]
          refine pm_fin ?_
          gi_wp2_with (fail)
          go_wp2_with (fail)
          go_ret
          refine ⟨ret_i (HR1.out fun hall => ?_).symm, bstep HB4.out (below_drew' HB.out)⟩
          have := hall i HU.out.1
          rw [HU.out.2, HL1.out, HUB.out] at this
          simp [HI0.out, HI1.out] at this
      · have e1 : ((i : Int) == (n1 : Int) - 1) = false := beq_eq_false_iff_ne.2 (by omega)
        have HI1 := Lib.hid (show (i + 1 = n1) = False from eq_false hb1)
        clear hb0 hb1 hin
        cases bu
        case true =>
          go_wp2_with (fail)
          refine (wpIn_wide (n := 20)).1 ?_
          refine wpIn_region_planM (fun W' => BoxG W' w.heap.size (some ⟨b3, o3, none⟩) n1 c1 a2 n2 c2 ∧ W'.cell? ⟨b3, o3 + i, none⟩ = some (.string (bs u))) 17 (.take 0 <| .take 1 <| .take 2 <| .take 3 <| .take 4 <| .take 5 <| .take 6 <| .take 7 <| .take 8 <| .take 9 <| .take 10 <| .take 11 <| .take 12 <| .take 13 <| .take 14 <| .take 15 <| .take 16 <| .fin) (fun _ => trivial) (by kernel_rfl) (by kernel_rfl) (⟨HXW.out.below (bdrewN wi 1), HC.out⟩) ?_
          apply pm_take rfl rfl (by rfl)
          case hy =>
            rintro W' hb'
            clear hb'
            go_simp
            first | done | with_reducible rfl
          simp only [List.setIfInBounds_toArray, List.set_cons_zero, List.set_cons_succ]
          apply pm_take rfl rfl (by rfl)
          case hy =>
            rintro W' hb'
            obtain ⟨g0, g1⟩ := hb'.1
            have g2 := hb'.2
            clear hb'
            go_simp
            first | done | with_reducible rfl
          simp only [List.setIfInBounds_toArray, List.set_cons_zero, List.set_cons_succ]
          iterate 2
            apply pm_take rfl rfl (by rfl)
            case hy =>
              rintro W' hb'
              clear hb'
              go_simp
              first | done | with_reducible rfl
            simp only [List.setIfInBounds_toArray, List.set_cons_zero, List.set_cons_succ]
          apply pm_take rfl rfl (by rfl)
          case hy =>
            rintro W' hb'
            obtain ⟨g0, g1⟩ := hb'.1
            have g2 := hb'.2
            clear hb'
            go_simp
            first | done | with_reducible rfl
          simp only [List.setIfInBounds_toArray, List.set_cons_zero, List.set_cons_succ]
          iterate 4
            apply pm_take rfl rfl (by rfl)
            case hy =>
              rintro W' hb'
              clear hb'
              go_simp
              first | done | with_reducible rfl
            simp only [List.setIfInBounds_toArray, List.set_cons_zero, List.set_cons_succ]
          iterate 2
            apply pm_gd (j := 8) (t := 35) (b := false) (c := false) rfl rfl rfl rfl rfl (by simp) rfl
            case hy =>
              rintro W' hb'
              clear hb'
              go_simp
              first | done | with_reducible rfl
            simp only [List.setIfInBounds_toArray, List.set_cons_zero, List.set_cons_succ]
          apply pm_gd (j := 8) (t := 35) (b := false) (c := false) rfl rfl rfl rfl rfl (by simp) rfl
          case hy =>
            rintro W' hb'
            obtain ⟨g0, g1⟩ := hb'.1
            have g2 := hb'.2
            clear hb'
            go_simp
            first | done | with_reducible rfl
          simp only [List.setIfInBounds_toArray, List.set_cons_zero, List.set_cons_succ]
          iterate 3
            apply pm_gd (j := 8) (t := 35) (b := false) (c := false) rfl rfl rfl rfl rfl (by simp) rfl
            case hy =>
              rintro W' hb'
              clear hb'
              go_simp
              first | done | with_reducible rfl
            simp only [List.setIfInBounds_toArray, List.set_cons_zero, List.set_cons_succ]
          iterate 2
            apply pm_take rfl rfl (by rfl)
            case hy =>
              rintro W' hb'
              clear hb'
              go_simp
              first | done | with_reducible rfl
            simp only [List.setIfInBounds_toArray, List.set_cons_zero, List.set_cons_succ]
          refine pm_fin ?_
          gi_wp2_with (fail)
          go_wp2_with (fail)
          go_ret
          refine ⟨ret_i (HR1.out fun hall => ?_).symm, bstep HB4.out (below_drew' HB.out)⟩
          have := hall i HU.out.1
          rw [HU.out.2, HL1.out, HUB.out] at this
          simp [HI0.out, HI1.out] at this
        case false =>
          go_wp2_with (fail)
          refine (wpIn_wide (n := 20)).1 ?_
          refine wpIn_region_planM (fun W' => BoxG W' w.heap.size (some ⟨b3, o3, none⟩) n1 c1 a2 n2 c2 ∧ W'.cell? ⟨b3, o3 + i, none⟩ = some (.string (bs u))) 17 (.take 0 <| .take 1 <| .take 2 <| .take 3 <| .take 4 <| .take 5 <| .take 6 <| .take 7 <| .take 8 <| .take 9 <| .take 10 <| .take 11 <| .take 12 <| .take 13 <| .take 14 <| .take 15 <| .take 16 <| .fin) (fun _ => trivial) (by kernel_rfl) (by kernel_rfl) (⟨HXW.out.below (bdrewN wi 1), HC.out⟩) ?_
          apply pm_take rfl rfl (by rfl)
          case hy =>
            rintro W' hb'
            clear hb'
            go_simp
            first | done | with_reducible rfl
          simp only [List.setIfInBounds_toArray, List.set_cons_zero, List.set_cons_succ]
          apply pm_take rfl rfl (by rfl)
          case hy =>
            rintro W' hb'
            obtain ⟨g0, g1⟩ := hb'.1
            have g2 := hb'.2
            clear hb'
            go_simp
            first | done | with_reducible rfl
          simp only [List.setIfInBounds_toArray, List.set_cons_zero, List.set_cons_succ]
          iterate 2
            apply pm_take rfl rfl (by rfl)
            case hy =>
              rintro W' hb'
              clear hb'
              go_simp
              first | done | with_reducible rfl
            simp only [List.setIfInBounds_toArray, List.set_cons_zero, List.set_cons_succ]
          apply pm_take rfl rfl (by rfl)
          case hy =>
            rintro W' hb'
            obtain ⟨g0, g1⟩ := hb'.1
            have g2 := hb'.2
            clear hb'
            go_simp
            first | done | with_reducible rfl
          simp only [List.setIfInBounds_toArray, List.set_cons_zero, List.set_cons_succ]
          iterate 4
            apply pm_take rfl rfl (by rfl)
            case hy =>
              rintro W' hb'
              clear hb'
              go_simp
              first | done | with_reducible rfl
            simp only [List.setIfInBounds_toArray, List.set_cons_zero, List.set_cons_succ]
          iterate 2
            apply pm_gd (j := 8) (t := 35) (b := false) (c := false) rfl rfl rfl rfl rfl (by simp) rfl
            case hy =>
              rintro W' hb'
              clear hb'
              go_simp
              first | done | with_reducible rfl
            simp only [List.setIfInBounds_toArray, List.set_cons_zero, List.set_cons_succ]
          apply pm_gd (j := 8) (t := 35) (b := false) (c := false) rfl rfl rfl rfl rfl (by simp) rfl
          case hy =>
            rintro W' hb'
            obtain ⟨g0, g1⟩ := hb'.1
            have g2 := hb'.2
            clear hb'
            go_simp
            first | done | with_reducible rfl
          simp only [List.setIfInBounds_toArray, List.set_cons_zero, List.set_cons_succ]
          iterate 3
            apply pm_gd (j := 8) (t := 35) (b := false) (c := false) rfl rfl rfl rfl rfl (by simp) rfl
            case hy =>
              rintro W' hb'
              clear hb'
              go_simp
              first | done | with_reducible rfl
            simp only [List.setIfInBounds_toArray, List.set_cons_zero, List.set_cons_succ]
          iterate 2
            apply pm_take rfl rfl (by rfl)
            case hy =>
              rintro W' hb'
              clear hb'
              go_simp
              first | done | with_reducible rfl
            simp only [List.setIfInBounds_toArray, List.set_cons_zero, List.set_cons_succ]
          refine pm_fin ?_
          gi_wp2_with (fail)
          go_wp2_with (fail)
          go_roundw
          case rel => exact ⟨i + 1, by have := HIN.out; omega, by simp, below_drew' HB.out, fun j hj hji => by
            rcases Nat.lt_or_eq_of_le (Nat.le_of_lt_succ hji) with hlt | rfl
            · exact HW.out j hj hlt
            · rw [HU.out.2, HL1.out, HUB.out]; simp [HI0.out, HI1.out]⟩
          case measure => have := HIN.out; simp [intOf]; omega
    case neg =>
      obtain rfl : n1 = i := by omega
      have HWK := Lib.hid (show Vg.wordsOk ws from fun j hj => HW.out j hj (by have := HL1.out; omega))
      have HR2' := Lib.hid (HR2.out HWK.out)
      have HR3' := Lib.hid (HR3.out HWK.out)
      have HR4' := Lib.hid (HR4.out HWK.out)
      clear hi hin hb
      go_wp2_with (fail)
      clear k0 k1
      go_loopw [4] (fun iv w9 => ∃ i : Nat, i ≤ n2 ∧ iv = .int .i64 i ∧ Below W4.heap.size W4 w9 ∧ Vg.arcsGo n1 (prevE al i) (al.drop i) = Vg.arcsGo n1 none al) (fun iv _ => n2 - (intOf iv).toNat)
      case atStart => exact ⟨0, Nat.zero_le _, rfl, HB.out, rfl⟩
      case round =>
        obtain ⟨wj, rfl⟩ : ∃ wj : World, wj = wr := ⟨_, rfl⟩
        obtain ⟨i, hi, rfl, hb, hgo⟩ := hrel
        have HGO := Lib.hid hgo
        have HBJ := Lib.hid hb
        obtain ⟨k0, k1⟩ := HBX.out.below hb
        clear hgo
        by_cases hin : i < n2
        case pos =>
          obtain ⟨x, hx⟩ : ∃ x, al[i]? = some x := ⟨_, List.getElem?_eq_getElem (by rw [HL2.out]; exact hin)⟩
          have HS := Lib.hid (arcs_step (n := (n1 : Int)) hx)
          have hac := HARC.out i x hx wj hb
          obtain ⟨q, hq⟩ : ∃ q, Vg.arcC n1 (prevE al i) x = q := ⟨_, rfl⟩
          rw [hq] at hac HS
          have HAC := Lib.hid hac
          have HIN := Lib.hid hin
          have i1 : (i : Int) < (n2 : Int) := by omega
          by_cases hq0 : q = 0
          · have e5 : (q != 0) = false := by rw [hq0]; rfl
            have HQ := Lib.hid hq0
            clear hq hq0 hx hac hb hi hin
            go_wp2_with (fail)
            refine HAC.out.mono ?_
            rintro e w8 ⟨rfl, hb8⟩
            have HB8 := Lib.hid (bstep HBJ.out hb8)
            clear hb8
            go_wp2_with (fail)
            go_roundw
            case rel => exact ⟨i + 1, by have := HIN.out; omega, by simp, HB8.out, by rw [← HGO.out, HS.out, if_neg (fun h => h HQ.out)]⟩
            case measure => have := HIN.out; simp [intOf]; omega
          · have e5 : (q != 0) = true := by simpa using hq0
            have HQ := Lib.hid hq0
            clear hq hq0 hx hac hb hi hin
            go_wp2_with (fail)
            refine HAC.out.mono ?_
            rintro e w8 ⟨rfl, hb8⟩
            have HB8 := Lib.hid (bstep HBJ.out hb8)
            clear hb8
            go_wp2_with (fail)
            go_ret
            have hv : Vg.arcsGo n1 none al = q := by rw [← HGO.out, HS.out, if_pos HQ.out]
            exact ⟨ret_i (by rw [HR2'.out (by rw [hv]; exact HQ.out), hv]), bstep HB4.out HB8.out⟩
        case neg =>
          obtain rfl : n2 = i := by omega
          rw [List.drop_eq_nil_of_le (by rw [HL2.out]; exact Nat.le_refl _)] at HGO
          have hg0 : Vg.arcsGo n1 none al = 0 := by rw [← HGO.out]; rfl
          have HAV := Lib.hid (Vg.arcsGo_zero.1 hg0)
          have HFL := Lib.hid (HFLO.out (fun a ha => ⟨((HAV.out.1 a ha).1).1, ((HAV.out.1 a ha).1).2.1, ((HAV.out.1 a ha).1).2.2⟩) wj hb)
          have HG0 := Lib.hid hg0
          clear hi hin hb hg0
          go_wp2_with (fail)
          refine HFL.out.mono ?_
          rintro e w8 ⟨⟨b, rfl, hbf⟩, hb8⟩
          have HBF := Lib.hid hbf
          have HB8 := Lib.hid (bstep HBJ.out hb8)
          clear hbf hb8
          cases b
          · go_wp2_with (fail)
            go_ret
            exact ⟨ret_i (HR4'.out HG0.out (fun h => by have := HBF.out.2 h; cases this)).symm, bstep HB4.out HB8.out⟩
          · go_wp2_with (fail)
            go_ret
            exact ⟨ret_i (HR3'.out HG0.out (HBF.out.1 (by first | rfl | trivial))).symm, bstep HB4.out HB8.out⟩
end Go.Proofs.YtjmebijckcimoaaGreatDoor
