/-
  Which lists of postings are in order (reference).
-/
import Derived.Test.YtngdmpkoedpgdaaGreatDoorIr
namespace Go.Ap
open Go Go.RowKit
theorem nthP_mem {l : List Post} {j : Nat} (h : j < l.length) : nthP l j ∈ l := by
  unfold nthP
  rw [List.getD_eq_getElem?_getD, List.getElem?_eq_getElem h]
  exact List.getElem_mem h
theorem indexB_of {l : List Post} (h4 : l.length ≤ 4096) (h : ∀ j, j < l.length → validB (nthP l j) = true ∧ ascAt l j = true) : indexB l = true := by
  unfold indexB
  rw [ascB_of fun j hj => (h j hj).2, decide_eq_true h4]
  have : (l.any fun p => !validB p) = false := by
    rw [List.any_eq_false]
    intro p hp
    obtain ⟨j, hj⟩ := List.getElem?_of_mem hp
    have := (h j (List.getElem?_eq_some_iff.1 hj).1).1
    rw [nthP_eq hj] at this
    simp [this]
  rw [this]
  rfl
theorem indexB_nv {l : List Post} (j : Nat) (hj : j < l.length) (h : validB (nthP l j) = false) : indexB l = false := by
  unfold indexB
  have : (l.any fun p => !validB p) = true := List.any_eq_true.2 ⟨_, nthP_mem hj, by rw [h]; rfl⟩
  rw [this]
  simp
theorem indexB_na {l : List Post} (j : Nat) (hj : j < l.length) (h : ascAt l j = false) : indexB l = false := by
  unfold indexB
  rw [ascB_no j hj h, Bool.and_false]
theorem indexB_g {l : List Post} (h : ¬l.length ≤ 4096) : indexB l = false := by simp [indexB, h]
theorem isWordB_len {s : Str} (h : isWordB s = true) : s.length ≤ 64 := by
  cases s with
  | nil => simp
  | cons c t =>
    simp only [isWordB, Bool.and_eq_true, decide_eq_true_eq] at h
    exact h.1.1.1.2
theorem validB_word {p : Post} (h : validB p = true) : isWordB p.1.1 = true := by
  simp only [validB, Bool.and_eq_true] at h
  exact h.1.1.1.1
end Go.Ap
namespace Go.Proofs.YtngdmpkoedpgdaaGreatDoor
open Go.RowKit Go.Ap Go.Shelf Go.Proofs

attribute [local go_sem] Oper.semAt_some bs_toList empty_toList bs_size bs_extract bl_eq

set_option maxRecDepth 100000 in
set_option maxHeartbeats 16000000 in
theorem indexR (l : List Post) (a : Option Addr) (n c : Nat) (w : World) (h : Posts w a n l) :
    Calls Tryz.prog 114 #[.slice a n c] w fun e w' => e = .returned (.bool (indexB l)) ∧ Below w.heap.size w w' := by
  have hlen := h.len
  have hsm := h.small
  have HX := Lib.hid h
  have V1 := Lib.hid (@indexB_of l)
  have V2 := Lib.hid (@indexB_nv l)
  have V3 := Lib.hid (@indexB_na l)
  have V4 := Lib.hid (@indexB_g l)
  have HAT := Lib.hid (fun i => (show ascAt l i = (decide (i = 0) || decide (headM mkB (nthP l (i - 1)).1 (nthP l i).1 < 0)) from rfl))
  obtain ⟨R, hR⟩ : ∃ R, indexB l = R := ⟨_, rfl⟩
  simp only [hR, hlen] at V1 V2 V3 V4 ⊢
  clear h hlen hR
  by_cases h4 : n ≤ 4096
  · have d1 : decide ((4096 : Int) < (n : Int)) = false := by rw [decide_eq_false_iff_not]; omega
    have HN := Lib.hid h4
    clear h4
    go_enter Tryz.func114, Tryz.ntmps114
    go_wp2_with (fail)
    go_loopw [3] (fun kv wr => ∃ i : Nat, i ≤ n ∧ kv = .int .i64 i ∧ Below w.heap.size w wr ∧ ∀ j, j < i → validB (nthP l j) = true ∧ ascAt l j = true) (fun kv _ => n - (intOf kv).toNat)
    case atStart => exact ⟨0, Nat.zero_le _, rfl, Below.refl _ _, fun j hj => absurd hj (Nat.not_lt_zero _)⟩
    case round =>
      obtain ⟨wi, rfl⟩ : ∃ wi : World, wi = wr := ⟨_, rfl⟩
      obtain ⟨i, hi, rfl, hb, hall⟩ := hrel
      have HB := Lib.hid hb
      have HA := Lib.hid hall
      by_cases hlt : i < n
      · have i1 : (i : Int) < (n : Int) := by omega
        obtain ⟨q, b, off, hq, rfl, a2, k2, c0', c1', c2', s2⟩ := (Posts.mono HX.out (Nat.le_refl _) hb).at hlt
        have c0 := Lib.hid c0'
        have c1 := Lib.hid c1'
        have c2 := Lib.hid c2'
        have S2 := Lib.hid s2
        have HV := Lib.hid (fun W (hbb : Below wi.heap.size wi W) => validR q a2 k2 W (s2.mono (Nat.le_refl _) hbb))
        have HQ := Lib.hid (nthP_eq hq)
        have HNV := Lib.hid (fun h => V2.out i hlt (by rw [nthP_eq hq]; exact h))
        have HNA := Lib.hid (V3.out i hlt)
        obtain ⟨v, hv⟩ : ∃ v, validB q = v := ⟨_, rfl⟩
        have HVV := Lib.hid hv
        rw [hv] at HV HNV
        unfold postV at HV
        clear hv hall hq s2 c0' c1' c2'
        cases v
        · have HX1 := Lib.hid (HNV.out rfl)
          clear hlt hb
          go_wp2_with (fail)
          refine (wpIn_wide (n := 20)).1 ?_
          refine wpIn_region_planN (fun W' => Below wi.heap.size wi W') (.take 0 <| .take 1 <| .take 2 <| .take 3 <| .one 4 <| .take 5 <| .take 6 <| .take 7 <| .take 8 <| .take 9 <| .take 10 <| .take 11 <| .take 12 <| .take 13 <| .take 14 <| .take 15 <| .take 16 <| .take 17 <| .take 18 <| .take 19 <| .take 20 <| .take 21 <| .take 22 <| .fin) (fun _ => trivial) (by kernel_rfl) (by kernel_rfl) (show Below _ wi _ from bdrewN _ 1) ?_
          iterate 3
            apply plan_take rfl rfl (by rfl)
            case hy =>
              rintro W' hb'
              clear hb'
              go_simp
              first | done | with_reducible rfl
            simp only [List.setIfInBounds_toArray, List.set_cons_zero, List.set_cons_succ]
          apply plan_take rfl rfl (by rfl)
          case hy =>
            rintro W' hb'
            have x0 := cell_keep hb' c0.out
            have x1 := cell_keep hb' c1.out
            have x2 := cell_keep hb' c2.out
            clear hb'
            go_simp
            first | done | with_reducible rfl
          simp only [List.setIfInBounds_toArray, List.set_cons_zero, List.set_cons_succ]
          refine plan_one rfl ?_
          gi_wp2_with (fail)
          refine ⟨trivial, (callsIn_wide.2 (HV.out _ (bdrewN wi 1))).mono ?_⟩
          rintro e W2 ⟨rfl, hl⟩
          have HSX := Lib.hid (show Below wi.heap.size wi W2 from bstep (bdrewN wi 1) hl)
          clear hl
          gi_wp2_with (fail)
          refine ⟨HSX.out, ?_⟩
          iterate 2
            apply plan_take rfl rfl (by rfl)
            case hy =>
              rintro W' hb'
              clear hb'
              go_simp
              first | done | with_reducible rfl
            simp only [List.setIfInBounds_toArray, List.set_cons_zero, List.set_cons_succ]
          iterate 3
            apply plan_no (j := 6) (t := 19) (b := true) (c := false) rfl rfl rfl rfl rfl (by simp) rfl
            simp only [List.setIfInBounds_toArray, List.set_cons_zero, List.set_cons_succ]
          iterate 11
            apply plan_un (j := 9) (t := 22) rfl rfl rfl rfl rfl (by simp)
            simp only [List.setIfInBounds_toArray, List.set_cons_zero, List.set_cons_succ]
          apply plan_no (j := 6) (t := 19) (b := true) (c := false) rfl rfl rfl rfl rfl (by simp) rfl
          simp only [List.setIfInBounds_toArray, List.set_cons_zero, List.set_cons_succ]
          apply plan_take rfl rfl (by rfl)
          case hy =>
            rintro W' hb'
            clear hb'
            go_simp
            first | done | with_reducible rfl
          simp only [List.setIfInBounds_toArray, List.set_cons_zero, List.set_cons_succ]
          refine plan_fin ?_
          gi_wp2_with (fail)
          go_wp2_with (fail)
          go_ret
          exact ⟨ret_b HX1.out.symm, bstep HB.out HSX.out⟩
        · obtain rfl | ⟨j, rfl⟩ : i = 0 ∨ ∃ j, i = j + 1 := by cases i with | zero => exact .inl rfl | succ j => exact .inr ⟨j, rfl⟩
          · have HX1 := Lib.hid (show validB (nthP l 0) = true ∧ ascAt l 0 = true from ⟨by rw [HQ.out]; exact HVV.out, by rw [HAT.out]; simp⟩)
            rw [Nat.zero_mul, Nat.add_zero] at c0 c1 c2
            clear hlt hb
            go_wp2_with (fail)
            refine (wpIn_wide (n := 20)).1 ?_
            refine wpIn_region_planN (fun W' => Below wi.heap.size wi W') (.take 0 <| .take 1 <| .take 2 <| .take 3 <| .one 4 <| .take 5 <| .take 6 <| .take 7 <| .take 8 <| .take 9 <| .take 10 <| .take 11 <| .take 12 <| .take 13 <| .take 14 <| .take 15 <| .take 16 <| .take 17 <| .take 18 <| .take 19 <| .take 20 <| .take 21 <| .take 22 <| .fin) (fun _ => trivial) (by kernel_rfl) (by kernel_rfl) (show Below _ wi _ from bdrewN _ 1) ?_
            iterate 3
              apply plan_take rfl rfl (by rfl)
              case hy =>
                rintro W' hb'
                clear hb'
                go_simp
                first | done | with_reducible rfl
              simp only [List.setIfInBounds_toArray, List.set_cons_zero, List.set_cons_succ]
            apply plan_take rfl rfl (by rfl)
            case hy =>
              rintro W' hb'
              have x0 := cell_keep hb' c0.out
              have x1 := cell_keep hb' c1.out
              have x2 := cell_keep hb' c2.out
              clear hb'
              go_simp
              first | done | with_reducible rfl
            simp only [List.setIfInBounds_toArray, List.set_cons_zero, List.set_cons_succ]
            refine plan_one rfl ?_
            gi_wp2_with (fail)
            refine ⟨trivial, (callsIn_wide.2 (HV.out _ (bdrewN wi 1))).mono ?_⟩
            rintro e W2 ⟨rfl, hl⟩
            have HSX := Lib.hid (show Below wi.heap.size wi W2 from bstep (bdrewN wi 1) hl)
            clear hl
            gi_wp2_with (fail)
            refine ⟨HSX.out, ?_⟩
            iterate 2
              apply plan_take rfl rfl (by rfl)
              case hy =>
                rintro W' hb'
                clear hb'
                go_simp
                first | done | with_reducible rfl
              simp only [List.setIfInBounds_toArray, List.set_cons_zero, List.set_cons_succ]
            iterate 3
              apply plan_gd (j := 6) (t := 19) (b := false) (c := false) rfl rfl rfl rfl rfl (by simp) rfl
              case hy =>
                rintro W' hb'
                clear hb'
                go_simp
                first | done | with_reducible rfl
              simp only [List.setIfInBounds_toArray, List.set_cons_zero, List.set_cons_succ]
            iterate 11
              apply plan_no (j := 9) (t := 22) (b := false) (c := true) rfl rfl rfl rfl rfl (by simp) rfl
              simp only [List.setIfInBounds_toArray, List.set_cons_zero, List.set_cons_succ]
            apply plan_gd (j := 6) (t := 19) (b := false) (c := false) rfl rfl rfl rfl rfl (by simp) rfl
            case hy =>
              rintro W' hb'
              clear hb'
              go_simp
              first | done | with_reducible rfl
            simp only [List.setIfInBounds_toArray, List.set_cons_zero, List.set_cons_succ]
            apply plan_take rfl rfl (by rfl)
            case hy =>
              rintro W' hb'
              clear hb'
              go_simp
              first | done | with_reducible rfl
            simp only [List.setIfInBounds_toArray, List.set_cons_zero, List.set_cons_succ]
            refine plan_fin ?_
            gi_wp2_with (fail)
            go_wp2_with (fail)
            exact ⟨⟨0 + 1, by omega, by simp, bstep HB.out HSX.out, fun q hq => (by
              obtain rfl : q = 0 := by omega
              exact HX1.out)⟩, by simp [intOf]; try omega⟩
          · obtain ⟨p, b', off', hp, hbq, a1, k1, d0', d1', d2', s1⟩ := (Posts.mono HX.out (Nat.le_refl _) hb).at (k := j) (by omega)
            cases hbq
            have d0 := Lib.hid d0'
            have d1 := Lib.hid d1'
            have d2 := Lib.hid d2'
            have hvp := (HA.out j (by omega)).1
            rw [nthP_eq hp] at hvp
            have hw1 := isWordB_len (validB_word hvp)
            have hw2 := isWordB_len (validB_word HVV.out)
            have HO := Lib.hid (fun W => orderR p.1 q.1 (.slice a1 p.2.length k1) (.slice a2 q.2.length k2) W (by omega) (by omega))
            have HAS := Lib.hid (show ascAt l (j + 1) = decide (headM mkB p.1 q.1 < 0) by rw [HAT.out, Nat.add_sub_cancel, nthP_eq hp, HQ.out]; simp)
            have i2 : (j : Int) < (n : Int) := by omega
            have i3 : (0 : Int) ≤ (j : Int) + 1 := by omega
            have i4 : (j : Int) + 1 < (n : Int) := by omega
            have i5 : (0 : Int) < (j : Int) + 1 := by omega
            have iw : IntKind.i64.wrap (j : Int) = (j : Int) := by simp [IntKind.wrap, IntKind.bits, IntKind.signed]; omega
            obtain ⟨r, hr⟩ : ∃ r, headM mkB p.1 q.1 = r := ⟨_, rfl⟩
            rw [hr] at HO HAS
            unfold postV at HO
            clear hp hr hb s1 hvp hw1 hw2 d0' d1' d2'
            by_cases hr0 : r < 0
            · have HX1 := Lib.hid (show validB (nthP l (j + 1)) = true ∧ ascAt l (j + 1) = true from ⟨by rw [HQ.out]; exact HVV.out, by rw [HAS.out]; simpa using hr0⟩)
              have e1 : decide (0 ≤ r) = false := by rw [decide_eq_false_iff_not]; omega
              clear hr0
              go_wp2_with (fail)
              refine (wpIn_wide (n := 20)).1 ?_
              refine wpIn_region_planN (fun W' => Below wi.heap.size wi W') (.take 0 <| .take 1 <| .take 2 <| .take 3 <| .one 4 <| .take 5 <| .take 6 <| .take 7 <| .take 8 <| .take 9 <| .take 10 <| .take 11 <| .take 12 <| .take 13 <| .take 14 <| .take 15 <| .take 16 <| .take 17 <| .take 18 <| .one 19 <| .take 20 <| .take 21 <| .take 22 <| .fin) (fun _ => trivial) (by kernel_rfl) (by kernel_rfl) (show Below _ wi _ from bdrewN _ 1) ?_
              iterate 3
                apply plan_take rfl rfl (by rfl)
                case hy =>
                  rintro W' hb'
                  clear hb'
                  go_simp
                  first | done | with_reducible rfl
                simp only [List.setIfInBounds_toArray, List.set_cons_zero, List.set_cons_succ]
              apply plan_take rfl rfl (by rfl)
              case hy =>
                rintro W' hb'
                have x0 := cell_keep hb' c0.out
                have x1 := cell_keep hb' c1.out
                have x2 := cell_keep hb' c2.out
                have y0 := cell_keep hb' d0.out
                have y1 := cell_keep hb' d1.out
                have y2 := cell_keep hb' d2.out
                clear hb'
                go_simp
                first | done | with_reducible rfl
              simp only [List.setIfInBounds_toArray, List.set_cons_zero, List.set_cons_succ]
              refine plan_one rfl ?_
              gi_wp2_with (fail)
              refine ⟨trivial, (callsIn_wide.2 (HV.out _ (bdrewN wi 1))).mono ?_⟩
              rintro e W2 ⟨rfl, hl⟩
              have HSX := Lib.hid (show Below wi.heap.size wi W2 from bstep (bdrewN wi 1) hl)
              clear hl
              gi_wp2_with (fail)
              refine ⟨HSX.out, ?_⟩
              iterate 2
                apply plan_take rfl rfl (by rfl)
                case hy =>
                  rintro W' hb'
                  clear hb'
                  go_simp
                  first | done | with_reducible rfl
                simp only [List.setIfInBounds_toArray, List.set_cons_zero, List.set_cons_succ]
              iterate 3
                apply plan_gd (j := 6) (t := 19) (b := false) (c := false) rfl rfl rfl rfl rfl (by simp) rfl
                case hy =>
                  rintro W' hb'
                  clear hb'
                  go_simp
                  first | done | with_reducible rfl
                simp only [List.setIfInBounds_toArray, List.set_cons_zero, List.set_cons_succ]
              iterate 4
                apply plan_gd (j := 9) (t := 22) (b := true) (c := true) rfl rfl rfl rfl rfl (by simp) rfl
                case hy =>
                  rintro W' hb'
                  clear hb'
                  go_simp
                  first | done | with_reducible rfl
                simp only [List.setIfInBounds_toArray, List.set_cons_zero, List.set_cons_succ]
              apply plan_gd (j := 9) (t := 22) (b := true) (c := true) rfl rfl rfl rfl rfl (by simp) rfl
              case hy =>
                rintro W' hb'
                have x0 := cell_keep hb' c0.out
                have x1 := cell_keep hb' c1.out
                have x2 := cell_keep hb' c2.out
                have y0 := cell_keep hb' d0.out
                have y1 := cell_keep hb' d1.out
                have y2 := cell_keep hb' d2.out
                clear hb'
                go_simp
                first | done | with_reducible rfl
              simp only [List.setIfInBounds_toArray, List.set_cons_zero, List.set_cons_succ]
              iterate 3
                apply plan_gd (j := 9) (t := 22) (b := true) (c := true) rfl rfl rfl rfl rfl (by simp) rfl
                case hy =>
                  rintro W' hb'
                  clear hb'
                  go_simp
                  first | done | with_reducible rfl
                simp only [List.setIfInBounds_toArray, List.set_cons_zero, List.set_cons_succ]
              apply plan_gd (j := 9) (t := 22) (b := true) (c := true) rfl rfl rfl rfl rfl (by simp) rfl
              case hy =>
                rintro W' hb'
                have x0 := cell_keep hb' c0.out
                have x1 := cell_keep hb' c1.out
                have x2 := cell_keep hb' c2.out
                have y0 := cell_keep hb' d0.out
                have y1 := cell_keep hb' d1.out
                have y2 := cell_keep hb' d2.out
                clear hb'
                go_simp
                first | done | with_reducible rfl
              simp only [List.setIfInBounds_toArray, List.set_cons_zero, List.set_cons_succ]
              refine plan_one rfl ?_
              gi_wp2_with (fail)
              refine ⟨trivial, (callsIn_wide.2 (HO.out _)).mono ?_⟩
              rintro e W3 ⟨rfl, hl⟩
              have HSX := Lib.hid (show Below wi.heap.size wi W3 from bstep HSX.out hl)
              clear hl
              gi_wp2_with (fail)
              refine ⟨HSX.out, ?_⟩
              apply plan_gd (j := 9) (t := 22) (b := true) (c := true) rfl rfl rfl rfl rfl (by simp) rfl
              case hy =>
                rintro W' hb'
                clear hb'
                go_simp
                first | done | with_reducible rfl
              simp only [List.setIfInBounds_toArray, List.set_cons_zero, List.set_cons_succ]
              apply plan_gd (j := 6) (t := 19) (b := false) (c := false) rfl rfl rfl rfl rfl (by simp) rfl
              case hy =>
                rintro W' hb'
                clear hb'
                go_simp
                first | done | with_reducible rfl
              simp only [List.setIfInBounds_toArray, List.set_cons_zero, List.set_cons_succ]
              apply plan_take rfl rfl (by rfl)
              case hy =>
                rintro W' hb'
                clear hb'
                go_simp
                first | done | with_reducible rfl
              simp only [List.setIfInBounds_toArray, List.set_cons_zero, List.set_cons_succ]
              refine plan_fin ?_
              gi_wp2_with (fail)
              go_wp2_with (fail)
              exact ⟨⟨j + 1 + 1, by omega, by simp, bstep HB.out HSX.out, fun q hq => (by
                by_cases hqi : q = j + 1
                · subst hqi; exact HX1.out
                · exact HA.out q (by omega))⟩, by simp [intOf]; omega⟩
            · have HX1 := Lib.hid (HNA.out (by rw [HAS.out]; simpa using hr0))
              have e1 : decide (0 ≤ r) = true := by rw [decide_eq_true_eq]; omega
              clear hr0
              go_wp2_with (fail)
              refine (wpIn_wide (n := 20)).1 ?_
              refine wpIn_region_planN (fun W' => Below wi.heap.size wi W') (.take 0 <| .take 1 <| .take 2 <| .take 3 <| .one 4 <| .take 5 <| .take 6 <| .take 7 <| .take 8 <| .take 9 <| .take 10 <| .take 11 <| .take 12 <| .take 13 <| .take 14 <| .take 15 <| .take 16 <| .take 17 <| .take 18 <| .one 19 <| .take 20 <| .take 21 <| .take 22 <| .fin) (fun _ => trivial) (by kernel_rfl) (by kernel_rfl) (show Below _ wi _ from bdrewN _ 1) ?_
              iterate 3
                apply plan_take rfl rfl (by rfl)
                case hy =>
                  rintro W' hb'
                  clear hb'
                  go_simp
                  first | done | with_reducible rfl
                simp only [List.setIfInBounds_toArray, List.set_cons_zero, List.set_cons_succ]
              apply plan_take rfl rfl (by rfl)
              case hy =>
                rintro W' hb'
                have x0 := cell_keep hb' c0.out
                have x1 := cell_keep hb' c1.out
                have x2 := cell_keep hb' c2.out
                have y0 := cell_keep hb' d0.out
                have y1 := cell_keep hb' d1.out
                have y2 := cell_keep hb' d2.out
                clear hb'
                go_simp
                first | done | with_reducible rfl
              simp only [List.setIfInBounds_toArray, List.set_cons_zero, List.set_cons_succ]
              refine plan_one rfl ?_
              gi_wp2_with (fail)
              refine ⟨trivial, (callsIn_wide.2 (HV.out _ (bdrewN wi 1))).mono ?_⟩
              rintro e W2 ⟨rfl, hl⟩
              have HSX := Lib.hid (show Below wi.heap.size wi W2 from bstep (bdrewN wi 1) hl)
              clear hl
              gi_wp2_with (fail)
              refine ⟨HSX.out, ?_⟩
              iterate 2
                apply plan_take rfl rfl (by rfl)
                case hy =>
                  rintro W' hb'
                  clear hb'
                  go_simp
                  first | done | with_reducible rfl
                simp only [List.setIfInBounds_toArray, List.set_cons_zero, List.set_cons_succ]
              iterate 3
                apply plan_gd (j := 6) (t := 19) (b := false) (c := false) rfl rfl rfl rfl rfl (by simp) rfl
                case hy =>
                  rintro W' hb'
                  clear hb'
                  go_simp
                  first | done | with_reducible rfl
                simp only [List.setIfInBounds_toArray, List.set_cons_zero, List.set_cons_succ]
              iterate 4
                apply plan_gd (j := 9) (t := 22) (b := true) (c := true) rfl rfl rfl rfl rfl (by simp) rfl
                case hy =>
                  rintro W' hb'
                  clear hb'
                  go_simp
                  first | done | with_reducible rfl
                simp only [List.setIfInBounds_toArray, List.set_cons_zero, List.set_cons_succ]
              apply plan_gd (j := 9) (t := 22) (b := true) (c := true) rfl rfl rfl rfl rfl (by simp) rfl
              case hy =>
                rintro W' hb'
                have x0 := cell_keep hb' c0.out
                have x1 := cell_keep hb' c1.out
                have x2 := cell_keep hb' c2.out
                have y0 := cell_keep hb' d0.out
                have y1 := cell_keep hb' d1.out
                have y2 := cell_keep hb' d2.out
                clear hb'
                go_simp
                first | done | with_reducible rfl
              simp only [List.setIfInBounds_toArray, List.set_cons_zero, List.set_cons_succ]
              iterate 3
                apply plan_gd (j := 9) (t := 22) (b := true) (c := true) rfl rfl rfl rfl rfl (by simp) rfl
                case hy =>
                  rintro W' hb'
                  clear hb'
                  go_simp
                  first | done | with_reducible rfl
                simp only [List.setIfInBounds_toArray, List.set_cons_zero, List.set_cons_succ]
              apply plan_gd (j := 9) (t := 22) (b := true) (c := true) rfl rfl rfl rfl rfl (by simp) rfl
              case hy =>
                rintro W' hb'
                have x0 := cell_keep hb' c0.out
                have x1 := cell_keep hb' c1.out
                have x2 := cell_keep hb' c2.out
                have y0 := cell_keep hb' d0.out
                have y1 := cell_keep hb' d1.out
                have y2 := cell_keep hb' d2.out
                clear hb'
                go_simp
                first | done | with_reducible rfl
              simp only [List.setIfInBounds_toArray, List.set_cons_zero, List.set_cons_succ]
              refine plan_one rfl ?_
              gi_wp2_with (fail)
              refine ⟨trivial, (callsIn_wide.2 (HO.out _)).mono ?_⟩
              rintro e W3 ⟨rfl, hl⟩
              have HSX := Lib.hid (show Below wi.heap.size wi W3 from bstep HSX.out hl)
              clear hl
              gi_wp2_with (fail)
              refine ⟨HSX.out, ?_⟩
              apply plan_gd (j := 9) (t := 22) (b := true) (c := true) rfl rfl rfl rfl rfl (by simp) rfl
              case hy =>
                rintro W' hb'
                clear hb'
                go_simp
                first | done | with_reducible rfl
              simp only [List.setIfInBounds_toArray, List.set_cons_zero, List.set_cons_succ]
              apply plan_gd (j := 6) (t := 19) (b := false) (c := false) rfl rfl rfl rfl rfl (by simp) rfl
              case hy =>
                rintro W' hb'
                clear hb'
                go_simp
                first | done | with_reducible rfl
              simp only [List.setIfInBounds_toArray, List.set_cons_zero, List.set_cons_succ]
              apply plan_take rfl rfl (by rfl)
              case hy =>
                rintro W' hb'
                clear hb'
                go_simp
                first | done | with_reducible rfl
              simp only [List.setIfInBounds_toArray, List.set_cons_zero, List.set_cons_succ]
              refine plan_fin ?_
              gi_wp2_with (fail)
              go_wp2_with (fail)
              go_ret
              exact ⟨ret_b HX1.out.symm, bstep HB.out HSX.out⟩
      · obtain rfl : n = i := by omega
        have HX1 := Lib.hid (V1.out HN.out hall)
        clear hall hb
        go_wp2_with (fail)
        go_ret
        exact ⟨ret_b HX1.out.symm, HB.out⟩
  · have d1 : decide ((4096 : Int) < (n : Int)) = true := by rw [decide_eq_true_eq]; omega
    have HR := Lib.hid (V4.out h4)
    clear h4
    go_enter Tryz.func114, Tryz.ntmps114
    go_wp2_with (fail)
    go_ret
    exact ⟨ret_b HR.out.symm, Below.refl _ _⟩
end Go.Proofs.YtngdmpkoedpgdaaGreatDoor
