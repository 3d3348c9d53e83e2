/-
 Same (reference): equal graphs are the same.
-/
import Derived.Test.YtjmebijckcimoaaGreatDoorSp
import Derived.Test.YtjmebijckcimoaaGreatDoorSm24
namespace Go.Proofs.YtjmebijckcimoaaGreatDoor
open Go.RowKit Go.Ap Go.Shelf Go.Proofs

attribute [local go_sem] Oper.semAt_some bs_toList empty_toList bs_size bs_extract
set_option maxRecDepth 100000 in
set_option maxHeartbeats 4000000 in
theorem sameT (ws : List Str) (al : List Vg.Arc) (a1 : Option Addr) (n1 c1 : Nat) (a2 : Option Addr) (n2 c2 : Nat) (d1 : Option Addr) (m1 k1 : Nat) (d2 : Option Addr) (m2 k2 : Nat) (w : World) (h : GraphM w a1 n1 a2 n2 ws al) (h' : GraphM w d1 m1 d2 m2 ws al) :
 Calls Tryz.prog 15 #[graphV a1 n1 c1 a2 n2 c2, graphV d1 m1 k1 d2 m2 k2] w fun e w' => e = .returned (.bool true) ∧ Below w.heap.size w w' := by
 obtain rfl : n1 = m1 := by rw [← h.words.len, ← h'.words.len]
 obtain rfl : n2 = m2 := by rw [← h.arcs.len, ← h'.arcs.len]
 have hs1 := h.words.small
 have hs2 := h.arcs.small
 obtain ⟨W5, hW5⟩ : ∃ W, (w.alloc (.cells #[.slice a1 n1 c1, .slice a2 n2 c2] 31)).alloc (.cells #[.slice d1 n1 k1, .slice d2 n2 k2] 31) = W := ⟨_, rfl⟩
 have bA := balloc w (.cells #[.slice a1 n1 c1, .slice a2 n2 c2] 31)
 have bB := balloc (w.alloc (.cells #[.slice a1 n1 c1, .slice a2 n2 c2] 31)) (.cells #[.slice d1 n1 k1, .slice d2 n2 k2] 31)
 have HB5 := Lib.hid (show Below w.heap.size w W5 by rw [← hW5]; exact bstep bA bB)
 have HX := Lib.hid (show BoxG W5 w.heap.size a1 n1 c1 a2 n2 c2 by rw [← hW5]; exact (BoxG.new w _ _ _ _ _ _).below bB)
 have HY := Lib.hid (show BoxG W5 (w.heap.size + 1) d1 n1 k1 d2 n2 k2 by
  rw [← hW5]
  have := BoxG.new (w.alloc (.cells #[.slice a1 n1 c1, .slice a2 n2 c2] 31)) d1 n1 k1 d2 n2 k2
  rwa [World.size_alloc] at this)
 have HH := Lib.hid (h.mono (Nat.le_refl _) HB5.out)
 have HH' := Lib.hid (h'.mono (Nat.le_refl _) HB5.out)
 have HW5 := Lib.hid hW5
 have z1 : ((n1 : Int) != (n1 : Int)) = false := by simp
 have z2 : ((n2 : Int) != (n2 : Int)) = false := by simp
 clear h h' bA bB hW5
 unfold graphV
 go_enter Tryz.func15, Tryz.ntmps15
 obtain ⟨x0, x1⟩ := HX.out
 obtain ⟨y0, y1⟩ := HY.out
 rw [← HW5.out] at x0 x1 y0 y1
 go_wp2_with (fail)
 rw [HW5.out]
 clear x0 x1 y0 y1 z1 z2
 go_loopw [5] (fun iv wr => ∃ i : Nat, i ≤ n1 ∧ iv = .int .i64 i ∧ Below W5.heap.size W5 wr) (fun iv _ => n1 - (intOf iv).toNat)
 case atStart => exact ⟨0, Nat.zero_le _, rfl, Below.refl _ _⟩
 case round =>
  obtain ⟨wi, rfl⟩ : ∃ wi : World, wi = wr := ⟨_, rfl⟩
  obtain ⟨i, hi, rfl, hb⟩ := hrel
  have HB := Lib.hid hb
  obtain ⟨x0, x1⟩ := HX.out.below hb
  obtain ⟨y0, y1⟩ := HY.out.below hb
  by_cases hin : i < n1
  · obtain ⟨u, b3, o3, v3, hu, rfl, hc, rfl⟩ := Sl.at HH.out.words hin
    obtain ⟨u', b4, o4, v4, hu', rfl, hc', rfl⟩ := Sl.at HH'.out.words hin
    rw [hu] at hu'
    cases hu'
    have HC := Lib.hid (show wi.cell? ⟨b3, o3 + i, none⟩ = some (.string (bs u)) from cell_keep hb hc)
    have HD := Lib.hid (show wi.cell? ⟨b4, o4 + i, none⟩ = some (.string (bs u)) from cell_keep hb hc')
    have HX0 := Lib.hid x0
    have HY0 := Lib.hid y0
    have i1 : (i : Int) < (n1 : Int) := by omega
    have z0 : (u != u) = false := by simp
    clear hu hc hc' hb x1 y1
    go_wp2_with (fail)
    clear x0 y0
    refine (wpIn_wide (n := 20)).1 ?_
    refine wpIn_region_planM (fun W' => Below wi.heap.size wi W') 11 (.take 0 <| .take 1 <| .take 2 <| .take 3 <| .take 4 <| .take 5 <| .take 6 <| .take 7 <| .take 8 <| .take 9 <| .take 10 <| .fin) (fun _ => trivial) (by kernel_rfl) (by kernel_rfl) (bdrewN wi 1) ?_
    apply pm_take rfl rfl (by rfl)
    case hy =>
     rintro W' hb'
     clear hb'
     go_simp
     first | done | with_reducible rfl
    simp only [List.setIfInBounds_toArray, List.set_cons_zero, List.set_cons_succ]
    apply pm_take rfl rfl (by rfl)
    case hy =>
     rintro W' hb'
     have e0 := cell_keep hb' HX0.out
     have e1 := cell_keep hb' HY0.out
     have e2 := cell_keep hb' HC.out
     have e3 := cell_keep hb' HD.out
     clear hb'
     go_simp
     first | done | with_reducible rfl
    simp only [List.setIfInBounds_toArray, List.set_cons_zero, List.set_cons_succ]
    iterate 2
     apply pm_take rfl rfl (by rfl)
     case hy =>
      rintro W' hb'
      clear hb'
      go_simp
      first | done | with_reducible rfl
     simp only [List.setIfInBounds_toArray, List.set_cons_zero, List.set_cons_succ]
    apply pm_take rfl rfl (by rfl)
    case hy =>
     rintro W' hb'
     have e0 := cell_keep hb' HX0.out
     have e1 := cell_keep hb' HY0.out
     have e2 := cell_keep hb' HC.out
     have e3 := cell_keep hb' HD.out
     clear hb'
     go_simp
     first | done | with_reducible rfl
    simp only [List.setIfInBounds_toArray, List.set_cons_zero, List.set_cons_succ]
    apply pm_take rfl rfl (by rfl)
    case hy =>
     rintro W' hb'
     clear hb'
     go_simp
     first | done | with_reducible rfl
    simp only [List.setIfInBounds_toArray, List.set_cons_zero, List.set_cons_succ]
    apply pm_take rfl rfl (by rfl)
    case hy =>
     rintro W' hb'
     have e0 := cell_keep hb' HX0.out
     have e1 := cell_keep hb' HY0.out
     have e2 := cell_keep hb' HC.out
     have e3 := cell_keep hb' HD.out
     clear hb'
     go_simp
     first | done | with_reducible rfl
    simp only [List.setIfInBounds_toArray, List.set_cons_zero, List.set_cons_succ]
    iterate 2
     apply pm_take rfl rfl (by rfl)
     case hy =>
      rintro W' hb'
      clear hb'
      go_simp
      first | done | with_reducible rfl
     simp only [List.setIfInBounds_toArray, List.set_cons_zero, List.set_cons_succ]
    apply pm_take rfl rfl (by rfl)
    case hy =>
     rintro W' hb'
     have e0 := cell_keep hb' HX0.out
     have e1 := cell_keep hb' HY0.out
     have e2 := cell_keep hb' HC.out
     have e3 := cell_keep hb' HD.out
     clear hb'
     go_simp
     first | done | with_reducible rfl
    simp only [List.setIfInBounds_toArray, List.set_cons_zero, List.set_cons_succ]
    apply pm_take rfl rfl (by rfl)
    case hy =>
     rintro W' hb'
     clear hb'
     go_simp
     first | done | with_reducible rfl
    simp only [List.setIfInBounds_toArray, List.set_cons_zero, List.set_cons_succ]
    refine pm_fin ?_
    gi_wp2_with (fail)
    go_wp2_with (fail)
    go_roundw
    case rel => exact ⟨i + 1, by omega, by simp, below_drew' HB.out⟩
    case measure => simp [intOf]; omega
  · obtain rfl : n1 = i := by omega
    clear hb
    go_wp2_with (fail)
    clear x0 x1 y0 y1
    go_loopw [6] (fun iv wr => ∃ i : Nat, i ≤ n2 ∧ iv = .int .i64 i ∧ Below W5.heap.size W5 wr) (fun iv _ => n2 - (intOf iv).toNat)
    case atStart => exact ⟨0, Nat.zero_le _, rfl, HB.out⟩
    case round =>
     obtain ⟨wi, rfl⟩ : ∃ wi : World, wi = wr := ⟨_, rfl⟩
     obtain ⟨i, hi, rfl, hb⟩ := hrel
     have HB := Lib.hid hb
     obtain ⟨x0, x1⟩ := HX.out.below hb
     obtain ⟨y0, y1⟩ := HY.out.below hb
     by_cases hin : i < n2
     · obtain ⟨x, b3, o3, a5, k5, hx, rfl, p0, p1, p2, hs⟩ := (HH.out.arcs.mono (Nat.le_refl _) hb).at hin
       obtain ⟨x', b4, o4, a6, k6, hx', rfl, q0, q1, q2, hs'⟩ := (HH'.out.arcs.mono (Nat.le_refl _) hb).at hin
       rw [hx] at hx'
       cases hx'
       obtain ⟨⟨f, t⟩, src⟩ := x
       simp only at p0 p1 p2 q0 q1 q2
       have HSI := Lib.hid (fun W (hw : Below wi.heap.size wi W) => by
        have := sameI a5 a6 k5 k6 src.length src.length src src W (hs.src.mono (Nat.le_refl _) hw) (hs'.src.mono (Nat.le_refl _) hw)
        rwa [decide_eq_true rfl] at this)
       obtain ⟨q, hq⟩ : ∃ q, src.length = q := ⟨_, rfl⟩
       rw [hq] at p2 q2 HSI
       have HP0 := Lib.hid p0
       have HP1 := Lib.hid p1
       have HP2 := Lib.hid p2
       have HQ0 := Lib.hid q0
       have HQ1 := Lib.hid q1
       have HQ2 := Lib.hid q2
       have HX1 := Lib.hid x1
       have HY1 := Lib.hid y1
       have i1 : (i : Int) < (n2 : Int) := by omega
       have z0 : (f != f) = false := by simp
       have z1 : (t != t) = false := by simp
       clear hx hs hs' hq hb p0 p1 p2 q0 q1 q2 x0 y0
       go_wp2_with (fail)
       clear x1 y1
       have HSX := Lib.hid (show Below wi.heap.size wi wi.drew from bdrewN _ 1)
       refine (wpIn_wide (n := 20)).1 ?_
       refine wpIn_region_planM (fun W' => Below wi.heap.size wi W') 44 (.take 0 <| .take 1 <| .take 2 <| .take 3 <| .take 4 <| .take 5 <| .take 6 <| .take 7 <| .take 8 <| .take 9 <| .take 10 <| .take 11 <| .take 12 <| .take 13 <| .take 14 <| .take 15 <| .take 16 <| .take 17 <| .take 18 <| .take 19 <| .take 20 <| .take 21 <| .take 22 <| .take 23 <| .take 24 <| .take 25 <| .take 26 <| .take 27 <| .take 28 <| .take 29 <| .take 30 <| .take 31 <| .take 32 <| .take 33 <| .take 34 <| .take 35 <| .take 36 <| .take 37 <| .take 38 <| .take 39 <| .take 40 <| .one 41 <| .take 42 <| .take 43 <| .fin) (fun _ => trivial) (by kernel_rfl) (by kernel_rfl) (bdrewN wi 1) ?_
       apply pm_take rfl rfl (by rfl)
       case hy =>
        rintro W' hb'
        clear hb'
        go_simp
        first | done | with_reducible rfl
       simp only [List.setIfInBounds_toArray, List.set_cons_zero, List.set_cons_succ]
       apply pm_take rfl rfl (by rfl)
       case hy =>
        rintro W' hb'
        have e0 := cell_keep hb' HX1.out
        have e1 := cell_keep hb' HY1.out
        have g0 := cell_keep hb' HP0.out
        have g1 := cell_keep hb' HP1.out
        have g2 := cell_keep hb' HP2.out
        have g3 := cell_keep hb' HQ0.out
        have g4 := cell_keep hb' HQ1.out
        have g5 := cell_keep hb' HQ2.out
        clear hb'
        go_simp
        first | done | with_reducible rfl
       simp only [List.setIfInBounds_toArray, List.set_cons_zero, List.set_cons_succ]
       iterate 3
        apply pm_take rfl rfl (by rfl)
        case hy =>
         rintro W' hb'
         clear hb'
         go_simp
         first | done | with_reducible rfl
        simp only [List.setIfInBounds_toArray, List.set_cons_zero, List.set_cons_succ]
       apply pm_take rfl rfl (by rfl)
       case hy =>
        rintro W' hb'
        have e0 := cell_keep hb' HX1.out
        have e1 := cell_keep hb' HY1.out
        have g0 := cell_keep hb' HP0.out
        have g1 := cell_keep hb' HP1.out
        have g2 := cell_keep hb' HP2.out
        have g3 := cell_keep hb' HQ0.out
        have g4 := cell_keep hb' HQ1.out
        have g5 := cell_keep hb' HQ2.out
        clear hb'
        go_simp
        first | done | with_reducible rfl
       simp only [List.setIfInBounds_toArray, List.set_cons_zero, List.set_cons_succ]
       apply pm_take rfl rfl (by rfl)
       case hy =>
        rintro W' hb'
        clear hb'
        go_simp
        first | done | with_reducible rfl
       simp only [List.setIfInBounds_toArray, List.set_cons_zero, List.set_cons_succ]
       apply pm_take rfl rfl (by rfl)
       case hy =>
        rintro W' hb'
        have e0 := cell_keep hb' HX1.out
        have e1 := cell_keep hb' HY1.out
        have g0 := cell_keep hb' HP0.out
        have g1 := cell_keep hb' HP1.out
        have g2 := cell_keep hb' HP2.out
        have g3 := cell_keep hb' HQ0.out
        have g4 := cell_keep hb' HQ1.out
        have g5 := cell_keep hb' HQ2.out
        clear hb'
        go_simp
        first | done | with_reducible rfl
       simp only [List.setIfInBounds_toArray, List.set_cons_zero, List.set_cons_succ]
       iterate 3
        apply pm_take rfl rfl (by rfl)
        case hy =>
         rintro W' hb'
         clear hb'
         go_simp
         first | done | with_reducible rfl
        simp only [List.setIfInBounds_toArray, List.set_cons_zero, List.set_cons_succ]
       apply pm_take rfl rfl (by rfl)
       case hy =>
        rintro W' hb'
        have e0 := cell_keep hb' HX1.out
        have e1 := cell_keep hb' HY1.out
        have g0 := cell_keep hb' HP0.out
        have g1 := cell_keep hb' HP1.out
        have g2 := cell_keep hb' HP2.out
        have g3 := cell_keep hb' HQ0.out
        have g4 := cell_keep hb' HQ1.out
        have g5 := cell_keep hb' HQ2.out
        clear hb'
        go_simp
        first | done | with_reducible rfl
       simp only [List.setIfInBounds_toArray, List.set_cons_zero, List.set_cons_succ]
       iterate 2
        apply pm_take rfl rfl (by rfl)
        case hy =>
         rintro W' hb'
         clear hb'
         go_simp
         first | done | with_reducible rfl
        simp only [List.setIfInBounds_toArray, List.set_cons_zero, List.set_cons_succ]
       apply pm_gd (j := 13) (t := 61) (b := false) (c := false) rfl rfl rfl rfl rfl (by simp) rfl
       case hy =>
        rintro W' hb'
        clear hb'
        go_simp
        first | done | with_reducible rfl
       simp only [List.setIfInBounds_toArray, List.set_cons_zero, List.set_cons_succ]
       apply pm_gd (j := 13) (t := 61) (b := false) (c := false) rfl rfl rfl rfl rfl (by simp) rfl
       case hy =>
        rintro W' hb'
        have e0 := cell_keep hb' HX1.out
        have e1 := cell_keep hb' HY1.out
        have g0 := cell_keep hb' HP0.out
        have g1 := cell_keep hb' HP1.out
        have g2 := cell_keep hb' HP2.out
        have g3 := cell_keep hb' HQ0.out
        have g4 := cell_keep hb' HQ1.out
        have g5 := cell_keep hb' HQ2.out
        clear hb'
        go_simp
        first | done | with_reducible rfl
       simp only [List.setIfInBounds_toArray, List.set_cons_zero, List.set_cons_succ]
       iterate 3
        apply pm_gd (j := 13) (t := 61) (b := false) (c := false) rfl rfl rfl rfl rfl (by simp) rfl
        case hy =>
         rintro W' hb'
         clear hb'
         go_simp
         first | done | with_reducible rfl
        simp only [List.setIfInBounds_toArray, List.set_cons_zero, List.set_cons_succ]
       apply pm_gd (j := 13) (t := 61) (b := false) (c := false) rfl rfl rfl rfl rfl (by simp) rfl
       case hy =>
        rintro W' hb'
        have e0 := cell_keep hb' HX1.out
        have e1 := cell_keep hb' HY1.out
        have g0 := cell_keep hb' HP0.out
        have g1 := cell_keep hb' HP1.out
        have g2 := cell_keep hb' HP2.out
        have g3 := cell_keep hb' HQ0.out
        have g4 := cell_keep hb' HQ1.out
        have g5 := cell_keep hb' HQ2.out
        clear hb'
        go_simp
        first | done | with_reducible rfl
       simp only [List.setIfInBounds_toArray, List.set_cons_zero, List.set_cons_succ]
       apply pm_gd (j := 13) (t := 61) (b := false) (c := false) rfl rfl rfl rfl rfl (by simp) rfl
       case hy =>
        rintro W' hb'
        clear hb'
        go_simp
        first | done | with_reducible rfl
       simp only [List.setIfInBounds_toArray, List.set_cons_zero, List.set_cons_succ]
       apply pm_gd (j := 13) (t := 61) (b := false) (c := false) rfl rfl rfl rfl rfl (by simp) rfl
       case hy =>
        rintro W' hb'
        have e0 := cell_keep hb' HX1.out
        have e1 := cell_keep hb' HY1.out
        have g0 := cell_keep hb' HP0.out
        have g1 := cell_keep hb' HP1.out
        have g2 := cell_keep hb' HP2.out
        have g3 := cell_keep hb' HQ0.out
        have g4 := cell_keep hb' HQ1.out
        have g5 := cell_keep hb' HQ2.out
        clear hb'
        go_simp
        first | done | with_reducible rfl
       simp only [List.setIfInBounds_toArray, List.set_cons_zero, List.set_cons_succ]
       iterate 3
        apply pm_gd (j := 13) (t := 61) (b := false) (c := false) rfl rfl rfl rfl rfl (by simp) rfl
        case hy =>
         rintro W' hb'
         clear hb'
         go_simp
         first | done | with_reducible rfl
        simp only [List.setIfInBounds_toArray, List.set_cons_zero, List.set_cons_succ]
       apply pm_gd (j := 13) (t := 61) (b := false) (c := false) rfl rfl rfl rfl rfl (by simp) rfl
       case hy =>
        rintro W' hb'
        have e0 := cell_keep hb' HX1.out
        have e1 := cell_keep hb' HY1.out
        have g0 := cell_keep hb' HP0.out
        have g1 := cell_keep hb' HP1.out
        have g2 := cell_keep hb' HP2.out
        have g3 := cell_keep hb' HQ0.out
        have g4 := cell_keep hb' HQ1.out
        have g5 := cell_keep hb' HQ2.out
        clear hb'
        go_simp
        first | done | with_reducible rfl
       simp only [List.setIfInBounds_toArray, List.set_cons_zero, List.set_cons_succ]
       apply pm_gd (j := 13) (t := 61) (b := false) (c := false) rfl rfl rfl rfl rfl (by simp) rfl
       case hy =>
        rintro W' hb'
        clear hb'
        go_simp
        first | done | with_reducible rfl
       simp only [List.setIfInBounds_toArray, List.set_cons_zero, List.set_cons_succ]
       iterate 2
        apply pm_take rfl rfl (by rfl)
        case hy =>
         rintro W' hb'
         clear hb'
         go_simp
         first | done | with_reducible rfl
        simp only [List.setIfInBounds_toArray, List.set_cons_zero, List.set_cons_succ]
       apply pm_gd (j := 28) (t := 76) (b := false) (c := false) rfl rfl rfl rfl rfl (by simp) rfl
       case hy =>
        rintro W' hb'
        clear hb'
        go_simp
        first | done | with_reducible rfl
       simp only [List.setIfInBounds_toArray, List.set_cons_zero, List.set_cons_succ]
       apply pm_gd (j := 28) (t := 76) (b := false) (c := false) rfl rfl rfl rfl rfl (by simp) rfl
       case hy =>
        rintro W' hb'
        have e0 := cell_keep hb' HX1.out
        have e1 := cell_keep hb' HY1.out
        have g0 := cell_keep hb' HP0.out
        have g1 := cell_keep hb' HP1.out
        have g2 := cell_keep hb' HP2.out
        have g3 := cell_keep hb' HQ0.out
        have g4 := cell_keep hb' HQ1.out
        have g5 := cell_keep hb' HQ2.out
        clear hb'
        go_simp
        first | done | with_reducible rfl
       simp only [List.setIfInBounds_toArray, List.set_cons_zero, List.set_cons_succ]
       iterate 3
        apply pm_gd (j := 28) (t := 76) (b := false) (c := false) rfl rfl rfl rfl rfl (by simp) rfl
        case hy =>
         rintro W' hb'
         clear hb'
         go_simp
         first | done | with_reducible rfl
        simp only [List.setIfInBounds_toArray, List.set_cons_zero, List.set_cons_succ]
       apply pm_gd (j := 28) (t := 76) (b := false) (c := false) rfl rfl rfl rfl rfl (by simp) rfl
       case hy =>
        rintro W' hb'
        have e0 := cell_keep hb' HX1.out
        have e1 := cell_keep hb' HY1.out
        have g0 := cell_keep hb' HP0.out
        have g1 := cell_keep hb' HP1.out
        have g2 := cell_keep hb' HP2.out
        have g3 := cell_keep hb' HQ0.out
        have g4 := cell_keep hb' HQ1.out
        have g5 := cell_keep hb' HQ2.out
        clear hb'
        go_simp
        first | done | with_reducible rfl
       simp only [List.setIfInBounds_toArray, List.set_cons_zero, List.set_cons_succ]
       apply pm_gd (j := 28) (t := 76) (b := false) (c := false) rfl rfl rfl rfl rfl (by simp) rfl
       case hy =>
        rintro W' hb'
        clear hb'
        go_simp
        first | done | with_reducible rfl
       simp only [List.setIfInBounds_toArray, List.set_cons_zero, List.set_cons_succ]
       apply pm_gd (j := 28) (t := 76) (b := false) (c := false) rfl rfl rfl rfl rfl (by simp) rfl
       case hy =>
        rintro W' hb'
        have e0 := cell_keep hb' HX1.out
        have e1 := cell_keep hb' HY1.out
        have g0 := cell_keep hb' HP0.out
        have g1 := cell_keep hb' HP1.out
        have g2 := cell_keep hb' HP2.out
        have g3 := cell_keep hb' HQ0.out
        have g4 := cell_keep hb' HQ1.out
        have g5 := cell_keep hb' HQ2.out
        clear hb'
        go_simp
        first | done | with_reducible rfl
       simp only [List.setIfInBounds_toArray, List.set_cons_zero, List.set_cons_succ]
       iterate 3
        apply pm_gd (j := 28) (t := 76) (b := false) (c := false) rfl rfl rfl rfl rfl (by simp) rfl
        case hy =>
         rintro W' hb'
         clear hb'
         go_simp
         first | done | with_reducible rfl
        simp only [List.setIfInBounds_toArray, List.set_cons_zero, List.set_cons_succ]
       apply pm_gd (j := 28) (t := 76) (b := false) (c := false) rfl rfl rfl rfl rfl (by simp) rfl
       case hy =>
        rintro W' hb'
        have e0 := cell_keep hb' HX1.out
        have e1 := cell_keep hb' HY1.out
        have g0 := cell_keep hb' HP0.out
        have g1 := cell_keep hb' HP1.out
        have g2 := cell_keep hb' HP2.out
        have g3 := cell_keep hb' HQ0.out
        have g4 := cell_keep hb' HQ1.out
        have g5 := cell_keep hb' HQ2.out
        clear hb'
        go_simp
        first | done | with_reducible rfl
       simp only [List.setIfInBounds_toArray, List.set_cons_zero, List.set_cons_succ]
       refine pm_one rfl ?_
       gi_wp2_with (fail)
       refine ⟨trivial, (callsIn_wide.2 (HSI.out _ HSX.out)).mono ?_⟩
       rintro e W9 ⟨rfl, hb9⟩
       have HSX := Lib.hid (bstep HSX.out hb9)
       clear hb9
       gi_wp2_with (fail)
       refine ⟨fun _ => HSX.out, ?_⟩
       apply pm_gd (j := 28) (t := 76) (b := false) (c := false) rfl rfl rfl rfl rfl (by simp) rfl
       case hy =>
        rintro W' hb'
        clear hb'
        go_simp
        first | done | with_reducible rfl
       simp only [List.setIfInBounds_toArray, List.set_cons_zero, List.set_cons_succ]
       apply pm_take rfl rfl (by rfl)
       case hy =>
        rintro W' hb'
        clear hb'
        go_simp
        first | done | with_reducible rfl
       simp only [List.setIfInBounds_toArray, List.set_cons_zero, List.set_cons_succ]
       refine pm_fin ?_
       gi_wp2_with (fail)
       go_wp2_with (fail)
       go_roundw
       case rel => exact ⟨i + 1, by omega, by simp, bstep HB.out HSX.out⟩
       case measure => simp [intOf]; omega
     · obtain rfl : n2 = i := by omega
       clear hb
       go_wp2_with (fail)
       go_ret
       exact ⟨rfl, bstep HB5.out HB.out⟩
end Go.Proofs.YtjmebijckcimoaaGreatDoor
