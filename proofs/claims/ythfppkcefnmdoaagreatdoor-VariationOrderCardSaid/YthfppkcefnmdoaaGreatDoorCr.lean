/-
  Check of variation: the reference's way.
-/
import Derived.Test.YthfppkcefnmdoaaGreatDoorPU
import Derived.Test.YthfppkcefnmdoaaGreatDoorUr
import Derived.Test.YthfppkcefnmdoaaGreatDoorCn
import Derived.Test.YthfppkcefnmdoaaGreatDoorNh
import Derived.Test.YthfppkcefnmdoaaGreatDoorRb
import Derived.Deep.QuietTactic
import Derived.BigQuiet
import Derived.IntWalk
namespace Go.Proofs.YthfppkcefnmdoaaGreatDoor
open Go.RowKit Go.Ap Go.Shelf Go.Proofs

attribute [local go_sem] Oper.semAt_some bs_toList empty_toList bs_size bs_extract
set_option maxRecDepth 100000 in
set_option maxHeartbeats 16000000 in
theorem checkR (x : Coll) (a1 : Option Addr) (n1 c1 : Nat) (a2 : Option Addr) (n2 c2 : Nat) (a3 : Option Addr) (n3 c3 : Nat) (w : World) (h : CollM w a1 a2 a3 n1 n2 n3 x) (h32 : x.columns.length ≤ 1048576)
    (a : Option Addr) (n c : Nat) (us : List Plc) (hu : Plcs w a n us) :
    Calls Tryz.prog 34 #[collV x.sec a1 n1 c1 a2 n2 c2 a3 n3 c3, .slice a n c] w fun e w' => e = .returned (.int .i64 (chkU x us)) ∧ Below w.heap.size w w' := by
  obtain ⟨i9, hi9, hy0, hy1, hy2⟩ := info_parts infoBool
  have hl3 := h.columns.len
  have hs3 := h.columns.small
  have HC := Lib.hid (fun W (hb : Below w.heap.size w W) => collR x a1 n1 c1 a2 n2 c2 a3 n3 c3 W (h.mono (Nat.le_refl _) hb))
  have HB4 := Lib.hid (balloc w (.cells #[.string (bs x.sec), .slice a1 n1 c1, .slice a2 n2 c2, .slice a3 n3 c3] 26))
  have HBX := Lib.hid (BlkK.new w #[.string (bs x.sec), .slice a1 n1 c1, .slice a2 n2 c2, .slice a3 n3 c3] 26)
  by_cases hok : collC x = 0
  · have hv := val_of hok
    have hle := hv.le
    have hlu := hu.len
    have hsu := hu.small
    have HRS := Lib.hid (fun lo hi (hlh : lo ≤ hi) (hh : hi ≤ n3) W (hb : Below w.heap.size w W) => readingsR x a1 n1 c1 a2 n2 c2 a3 n3 c3 W (h.mono (Nat.le_refl _) hb) hv lo hi hlh (by omega) h32)
    have HCM := Lib.hid (fun i (c : List Int) (hc : x.columns[i]? = some c) (a : Option Addr) (n cp : Nat) W (hb : Below w.heap.size w W) (hI : Ints w a n c) => commonR x a1 n1 c1 a2 n2 c2 a3 n3 c3 W (h.mono (Nat.le_refl _) hb) hv i c hc a n cp (hI.mono (Nat.le_refl _) hb))
    have HRL := Lib.hid (fun i (hi : i < n3) => row_lies h i hi)
    have HSM := Lib.hid (fun lo hi (hh : hi - lo ≤ 1048576) => rdsL_small (x := x) (lo := lo) (hi := hi) hle hh)
    have HU := Lib.hid (fun W (hb : Below w.heap.size w W) => (Plcs.mono hu (Nat.le_refl _) hb))
    have HLU := Lib.hid hlu
    have HRR := Lib.hid (show chkU x us = if (okUs n3 (Go.Ap.hasR x) (-1) us && covR (comB x) n3 us) = true then 0 else 20 by rw [chkU, if_neg (by rw [hok]; simp), right_ref, hl3])
    have HNO := Lib.hid (show okUs n3 (Go.Ap.hasR x) (-1) us = false → chkU x us = 20 from fun e => by rw [HRR.out, e]; rfl)
    rw [hok] at HC
    unfold collV at HC HRS HCM ⊢
    clear h hok hv hu hlu
    have hmk : ∀ w, (Instr.makeSlice 52 (.int .i64 (n3 : Int)) (.int .i64 (n3 : Int))).run Tryz.prog w = .ok (.slice (some ⟨w.heap.size, 0, none⟩) n3 n3) (w.alloc (.cells (Array.replicate n3 (.bool false)) 4)) := fun w => by
      have h := run_make_row (P := Tryz.prog) 52 4 i9 (.bool false) Tryz.underlying52 hi9 hy0 hy1 rfl .i64 .i64 n3 (by rw [hy2]; omega) (by omega) w
      rw [show madeCells #[Value.bool false] n3 = ((List.replicate n3 false).map Value.bool).toArray from made_all (enc := Value.bool) (x := false) rfl n3, show ((List.replicate n3 false).map Value.bool).toArray = Array.replicate n3 (.bool false) by simp] at h
      exact h
    go_enter Tryz.func34, Tryz.ntmps34
    obtain ⟨q0, q1, q2, q3⟩ := HBX.out.coll
    go_wp2_with (fail)
    refine (HC.out _ HB4.out).mono ?_
    rintro e w5 ⟨rfl, hb5⟩
    have HB5 := Lib.hid (bstep HB4.out hb5)
    have HX5 := Lib.hid (HBX.out.below hb5)
    clear hb5 q0 q1 q2 q3
    obtain ⟨q0, q1, q2, q3⟩ := HX5.out.coll
    go_wp2_with (fail)
    clear hmk q0 q1 q2 q3
    have HAR0 := Lib.hid (show ArrG Value.bool (w5.alloc (.cells (Array.replicate n3 (.bool false)) 4)) w5.heap.size 4 (inA n3 (us.take 0) 0 0) by
      rw [List.take_zero, inA_zero, ArrG, show ((List.replicate n3 false).map Value.bool).toArray = Array.replicate n3 (.bool false) by simp]
      exact heap_fresh rfl)
    have HBK0 := Lib.hid (balloc w5 (.cells (Array.replicate n3 (.bool false)) 4))
    obtain ⟨B, hB⟩ : ∃ B, w5.heap.size = B := ⟨_, rfl⟩
    have HBE := Lib.hid hB
    rw [hB] at HAR0 ⊢
    clear hB
    go_loopw [6] (fun kv wr => ∃ (k : Nat) (b : Int), k ≤ n ∧ kv = .int .i64 k ∧ okUs n3 (Go.Ap.hasR x) (-1) us = okUs n3 (Go.Ap.hasR x) b (us.drop k) ∧ ((k = 0 ∧ b = -1) ∨ ∃ j v, k = j + 1 ∧ us[j]? = some v ∧ b = v.hi) ∧ Below w5.heap.size w5 wr ∧ ArrG Value.bool wr B 4 (inA n3 (us.take k) 0 0)) (fun kv _ => n - (intOf kv).toNat)
    case atStart => exact ⟨0, -1, Nat.zero_le _, rfl, rfl, .inl ⟨rfl, rfl⟩, HBK0.out, HAR0.out⟩
    case round =>
      obtain ⟨wk, rfl⟩ : ∃ wk : World, wk = wr := ⟨_, rfl⟩
      obtain ⟨k, b, hk, rfl, hch, hpre, hbk, har⟩ := hrel
      have HCH := Lib.hid hch
      have HPRE := Lib.hid hpre
      have HBK := Lib.hid hbk
      have HAR := Lib.hid har
      have HBW := Lib.hid (bstep HB5.out hbk)
      have HXK := Lib.hid (HX5.out.below hbk)
      clear hch hpre hbk har
      by_cases hkn : k < n
      · obtain ⟨u, bb, oo, hu, rfl, ⟨ar, nr, kr, g0, g1, g2, hRd, i64l, i64h, _⟩⟩ := (HU.out wk HBW.out).at hkn
        have HUK := Lib.hid hu
        obtain ⟨ulo, uhi, rds⟩ := u
        obtain ⟨hkl, hke⟩ := List.getElem?_eq_some_iff.1 hu
        have HCS := Lib.hid (show okUs n3 (Go.Ap.hasR x) (-1) us = ((decide (b < ulo) && decide (0 ≤ ulo) && decide (ulo < uhi) && decide (uhi ≤ n3) && Go.Ap.hasR x ⟨ulo, uhi, rds⟩) && okUs n3 (Go.Ap.hasR x) uhi (us.drop (k + 1))) from by
          rw [HCH.out, List.drop_eq_getElem_cons hkl, hke, okUs])
        simp only at g0 g1 hRd i64l i64h
        have i1 : (k : Int) < (n : Int) := by omega
        go_wp2_with (fail)
        obtain ⟨b7, hb7⟩ : ∃ b7, wk.heap.size = b7 := ⟨_, rfl⟩
        have bA := balloc wk (.cells #[.int .i64 ulo, .int .i64 uhi, .slice ar nr kr] 36)
        have HK0 := Lib.hid (BlkK.new wk #[.int .i64 ulo, .int .i64 uhi, .slice ar nr kr] 36)
        have hBb : B < b7 := by rw [← hb7]; exact HAR.out.lt
        rw [hb7] at HK0 ⊢
        obtain ⟨WA, hWA⟩ : ∃ WA, wk.alloc (.cells #[.int .i64 ulo, .int .i64 uhi, .slice ar nr kr] 36) = WA := ⟨_, rfl⟩
        rw [hWA] at bA HK0 ⊢
        have HK7 := Lib.hid HK0.out
        have HBA := Lib.hid (bstep HBK.out bA)
        have HBWA := Lib.hid (bstep HBW.out bA)
        have HXA := Lib.hid (HXK.out.below bA)
        have HARA := Lib.hid (HAR.out.kept bA)
        have HRA := Lib.hid (Rdgs.mono hRd (Nat.le_refl _) bA)
        have u0 := HK7.out.cell (i := 0) rfl
        have u1 := HK7.out.cell (i := 1) rfl
        have u2 := HK7.out.cell (i := 2) rfl
        clear hu hkl hke hRd g0 g1 g2 bA hWA hb7 HK0
        obtain ⟨q0, q1, q2, q3⟩ := HXA.out.coll
        by_cases p0 : ulo < 0
        · have t0 : decide (ulo < 0) = true := by simpa using p0
          have HF := Lib.hid (HNO.out (by rw [HCS.out, show decide (0 ≤ ulo) = false by simp; omega]; simp))
          go_wp2_with (fail)
          go_quiet (fail)
          go_wp2_with (fail)
          go_ret
          exact ⟨by rw [HF.out]; rfl, bstep HBWA.out (bdrewN WA _)⟩
        · have t0 : decide (ulo < 0) = false := by simpa using p0
          by_cases p1 : uhi ≤ ulo
          · have t1 : decide (uhi ≤ ulo) = true := by simpa using p1
            have HF := Lib.hid (HNO.out (by rw [HCS.out, show decide (ulo < uhi) = false by simp; omega]; simp))
            go_wp2_with (fail)
            go_quiet (fail)
            go_wp2_with (fail)
            go_ret
            exact ⟨by rw [HF.out]; rfl, bstep HBWA.out (bdrewN WA _)⟩
          · have t1 : decide (uhi ≤ ulo) = false := by simpa using p1
            by_cases p2 : (n3 : Int) < uhi
            · have t2 : decide ((n3 : Int) < uhi) = true := by simpa using p2
              have HF := Lib.hid (HNO.out (by rw [HCS.out, show decide (uhi ≤ (n3 : Int)) = false by simp; omega]; simp))
              go_wp2_with (fail)
              go_quiet (fail)
              go_wp2_with (fail)
              go_ret
              exact ⟨by rw [HF.out]; rfl, bstep HBWA.out (bdrewN WA _)⟩
            · have t2 : decide ((n3 : Int) < uhi) = false := by simpa using p2
              obtain ⟨lo, hlo⟩ := Int.eq_ofNat_of_zero_le (show 0 ≤ ulo by omega)
              obtain ⟨hi, hhi⟩ := Int.eq_ofNat_of_zero_le (show 0 ≤ uhi by omega)
              subst hlo hhi
              clear t0 p0
              have s0 : decide ((lo : Int) < 0) = false := by simp
              have hF67 : Fence.wide.fn 67 := trivial
              have hF63 : Fence.wide.fn 63 := trivial
              have s1 : decide (hi ≤ lo) = false := by simp; omega
              have s2 : decide (n3 < hi) = false := by simp; omega
              obtain ⟨r, hr⟩ : ∃ r, decide (rds = rdsL x lo hi) = r := ⟨_, rfl⟩
              have HRL2 := Lib.hid (fun W (hb : Below w.heap.size w W) => show Calls Tryz.prog 67 #[.agg #[.string (bs x.sec), .slice a1 n1 c1, .slice a2 n2 c2, .slice a3 n3 c3], .int .i64 lo, .int .i64 hi] W fun e w' => ∃ a9 n9 k9, e = .returned (.slice a9 n9 k9) ∧ Rdgs w' a9 n9 (rdsL x lo hi) ∧ Below W.heap.size W w' from
                (HRS.out lo hi (by omega) (by omega) W hb).mono fun e w' ⟨v, he, ho, hb'⟩ => by
                  obtain ⟨a9, k9, rfl, hr9⟩ := ho.rdgs (HSM.out lo hi (by omega))
                  exact ⟨a9, _, k9, he, hr9, hb'⟩)
              have HSA := Lib.hid (fun a9 n9 k9 W (hb : Below WA.heap.size WA W) (hr9 : Rdgs W a9 n9 (rdsL x lo hi)) => show Calls Tryz.prog 63 #[.slice ar nr kr, .slice a9 n9 k9] W fun e w' => e = .returned (.bool r) ∧ Below W.heap.size W w' from by
                have := sameRq ar a9 kr k9 nr n9 rds (rdsL x lo hi) W (Rdgs.mono HRA.out (Nat.le_refl _) hb) hr9
                rw [hr] at this
                exact this.mono fun e w' ⟨he, q, hq⟩ => ⟨he, by rw [hq]; exact bdrewN W q⟩)
              have HHR := Lib.hid (show Go.Ap.hasR x ⟨(lo : Int), (hi : Int), rds⟩ = r from hr)
              clear hr
              have HC2 := Lib.hid (show okUs n3 (Go.Ap.hasR x) (-1) us = ((decide (b < (lo : Int)) && r) && okUs n3 (Go.Ap.hasR x) (hi : Int) (us.drop (k + 1))) from by
                rw [HCS.out, HHR.out, show decide (0 ≤ (lo : Int)) = true by simp, show decide ((lo : Int) < (hi : Int)) = true by simp; omega, show decide ((hi : Int) ≤ (n3 : Int)) = true by simp; omega]; simp)
              rcases HPRE.out with ⟨h0, hb1⟩ | ⟨j, v, hj, hv, hb1⟩
              · have d0 : decide (0 < k) = false := by simp; omega
                have d0' : decide ((0 : Int) < (k : Int)) = false := by simp; omega
                go_wp2_with (fail)
                refine (wpIn_wide (n := 20)).1 ?_
                refine wpIn_region_heldN (fun W' => BlkK W' b7 #[.int .i64 lo, .int .i64 hi, .slice ar nr kr] 36 ∧ BlkK W' w.heap.size #[.string (bs x.sec), .slice a1 n1 c1, .slice a2 n2 c2, .slice a3 n3 c3] 26) 45 [0, 1, 2, 3, 4, 5, 6, 7, 8, 9, 10, 11, 12, 13, 14, 15, 16, 17, 18, 19, 20, 21, 22, 23, 24, 25, 26, 27, 28, 29, 30, 31, 32, 33, 34, 35, 36, 37, 38, 39, 40] [41, 42, 43, 44] (fun _ => trivial) (by kernel_rfl) (by kernel_rfl) ⟨HK7.out, HXA.out⟩ ?_
                apply wpTakes_consD rfl rfl (by rfl)
                case hy =>
                  rintro W' ⟨e1, e2⟩
                  go_simp
                  first | done | with_reducible rfl
                simp only [List.setIfInBounds_toArray, List.set_cons_zero, List.set_cons_succ]
                apply wpTakes_consD rfl rfl (by rfl)
                case hy =>
                  rintro W' ⟨e1, e2⟩
                  have u0 := e1.cell (i := 0) rfl
                  have u1 := e1.cell (i := 1) rfl
                  have u2 := e1.cell (i := 2) rfl
                  obtain ⟨d0, d1, d2, d3⟩ := e2.coll
                  go_simp
                  first | done | with_reducible rfl
                simp only [List.setIfInBounds_toArray, List.set_cons_zero, List.set_cons_succ]
                apply wpTakes_consD rfl rfl (by rfl)
                case hy =>
                  rintro W' ⟨e1, e2⟩
                  go_simp
                  first | done | with_reducible rfl
                simp only [List.setIfInBounds_toArray, List.set_cons_zero, List.set_cons_succ]
                apply wpTakes_consD rfl rfl (by rfl)
                case hy =>
                  rintro W' ⟨e1, e2⟩
                  go_simp
                  first | done | with_reducible rfl
                simp only [List.setIfInBounds_toArray, List.set_cons_zero, List.set_cons_succ]
                apply wpTakes_gdD (j := 3) (t := 30) (b := false) (c := false) rfl rfl rfl rfl rfl (by simp) rfl
                case hy =>
                  rintro W' ⟨e1, e2⟩
                  go_simp
                  first | done | with_reducible rfl
                simp only [List.setIfInBounds_toArray, List.set_cons_zero, List.set_cons_succ]
                apply wpTakes_gdD (j := 3) (t := 30) (b := false) (c := false) rfl rfl rfl rfl rfl (by simp) rfl
                case hy =>
                  rintro W' ⟨e1, e2⟩
                  have u0 := e1.cell (i := 0) rfl
                  have u1 := e1.cell (i := 1) rfl
                  have u2 := e1.cell (i := 2) rfl
                  obtain ⟨d0, d1, d2, d3⟩ := e2.coll
                  go_simp
                  first | done | with_reducible rfl
                simp only [List.setIfInBounds_toArray, List.set_cons_zero, List.set_cons_succ]
                apply wpTakes_gdD (j := 3) (t := 30) (b := false) (c := false) rfl rfl rfl rfl rfl (by simp) rfl
                case hy =>
                  rintro W' ⟨e1, e2⟩
                  go_simp
                  first | done | with_reducible rfl
                simp only [List.setIfInBounds_toArray, List.set_cons_zero, List.set_cons_succ]
                apply wpTakes_gdD (j := 3) (t := 30) (b := false) (c := false) rfl rfl rfl rfl rfl (by simp) rfl
                case hy =>
                  rintro W' ⟨e1, e2⟩
                  have u0 := e1.cell (i := 0) rfl
                  have u1 := e1.cell (i := 1) rfl
                  have u2 := e1.cell (i := 2) rfl
                  obtain ⟨d0, d1, d2, d3⟩ := e2.coll
                  go_simp
                  first | done | with_reducible rfl
                simp only [List.setIfInBounds_toArray, List.set_cons_zero, List.set_cons_succ]
                apply wpTakes_gdD (j := 3) (t := 30) (b := false) (c := false) rfl rfl rfl rfl rfl (by simp) rfl
                case hy =>
                  rintro W' ⟨e1, e2⟩
                  go_simp
                  first | done | with_reducible rfl
                simp only [List.setIfInBounds_toArray, List.set_cons_zero, List.set_cons_succ]
                apply wpTakes_consD rfl rfl (by rfl)
                case hy =>
                  rintro W' ⟨e1, e2⟩
                  go_simp
                  first | done | with_reducible rfl
                simp only [List.setIfInBounds_toArray, List.set_cons_zero, List.set_cons_succ]
                apply wpTakes_consD rfl rfl (by rfl)
                case hy =>
                  rintro W' ⟨e1, e2⟩
                  go_simp
                  first | done | with_reducible rfl
                simp only [List.setIfInBounds_toArray, List.set_cons_zero, List.set_cons_succ]
                apply wpTakes_gdD (j := 10) (t := 37) (b := false) (c := false) rfl rfl rfl rfl rfl (by simp) rfl
                case hy =>
                  rintro W' ⟨e1, e2⟩
                  go_simp
                  first | done | with_reducible rfl
                simp only [List.setIfInBounds_toArray, List.set_cons_zero, List.set_cons_succ]
                apply wpTakes_gdD (j := 10) (t := 37) (b := false) (c := false) rfl rfl rfl rfl rfl (by simp) rfl
                case hy =>
                  rintro W' ⟨e1, e2⟩
                  have u0 := e1.cell (i := 0) rfl
                  have u1 := e1.cell (i := 1) rfl
                  have u2 := e1.cell (i := 2) rfl
                  obtain ⟨d0, d1, d2, d3⟩ := e2.coll
                  go_simp
                  first | done | with_reducible rfl
                simp only [List.setIfInBounds_toArray, List.set_cons_zero, List.set_cons_succ]
                apply wpTakes_gdD (j := 10) (t := 37) (b := false) (c := false) rfl rfl rfl rfl rfl (by simp) rfl
                case hy =>
                  rintro W' ⟨e1, e2⟩
                  go_simp
                  first | done | with_reducible rfl
                simp only [List.setIfInBounds_toArray, List.set_cons_zero, List.set_cons_succ]
                apply wpTakes_gdD (j := 10) (t := 37) (b := false) (c := false) rfl rfl rfl rfl rfl (by simp) rfl
                case hy =>
                  rintro W' ⟨e1, e2⟩
                  have u0 := e1.cell (i := 0) rfl
                  have u1 := e1.cell (i := 1) rfl
                  have u2 := e1.cell (i := 2) rfl
                  obtain ⟨d0, d1, d2, d3⟩ := e2.coll
                  go_simp
                  first | done | with_reducible rfl
                simp only [List.setIfInBounds_toArray, List.set_cons_zero, List.set_cons_succ]
                apply wpTakes_gdD (j := 10) (t := 37) (b := false) (c := false) rfl rfl rfl rfl rfl (by simp) rfl
                case hy =>
                  rintro W' ⟨e1, e2⟩
                  go_simp
                  first | done | with_reducible rfl
                simp only [List.setIfInBounds_toArray, List.set_cons_zero, List.set_cons_succ]
                apply wpTakes_gdD (j := 10) (t := 37) (b := false) (c := false) rfl rfl rfl rfl rfl (by simp) rfl
                case hy =>
                  rintro W' ⟨e1, e2⟩
                  go_simp
                  first | done | with_reducible rfl
                simp only [List.setIfInBounds_toArray, List.set_cons_zero, List.set_cons_succ]
                apply wpTakes_consD rfl rfl (by rfl)
                case hy =>
                  rintro W' ⟨e1, e2⟩
                  go_simp
                  first | done | with_reducible rfl
                simp only [List.setIfInBounds_toArray, List.set_cons_zero, List.set_cons_succ]
                apply wpTakes_consD rfl rfl (by rfl)
                case hy =>
                  rintro W' ⟨e1, e2⟩
                  go_simp
                  first | done | with_reducible rfl
                simp only [List.setIfInBounds_toArray, List.set_cons_zero, List.set_cons_succ]
                apply wpTakes_gdD (j := 18) (t := 45) (b := false) (c := false) rfl rfl rfl rfl rfl (by simp) rfl
                case hy =>
                  rintro W' ⟨e1, e2⟩
                  go_simp
                  first | done | with_reducible rfl
                simp only [List.setIfInBounds_toArray, List.set_cons_zero, List.set_cons_succ]
                apply wpTakes_gdD (j := 18) (t := 45) (b := false) (c := false) rfl rfl rfl rfl rfl (by simp) rfl
                case hy =>
                  rintro W' ⟨e1, e2⟩
                  go_simp
                  first | done | with_reducible rfl
                simp only [List.setIfInBounds_toArray, List.set_cons_zero, List.set_cons_succ]
                apply wpTakes_gdD (j := 18) (t := 45) (b := false) (c := false) rfl rfl rfl rfl rfl (by simp) rfl
                case hy =>
                  rintro W' ⟨e1, e2⟩
                  go_simp
                  first | done | with_reducible rfl
                simp only [List.setIfInBounds_toArray, List.set_cons_zero, List.set_cons_succ]
                refine wpTakes_noD (j := 21) (t := 48) (b := false) (c := true) rfl rfl rfl rfl rfl (by simp) rfl ?_
                simp only [List.setIfInBounds_toArray, List.set_cons_zero, List.set_cons_succ]
                refine wpTakes_noD (j := 21) (t := 48) (b := false) (c := true) rfl rfl rfl rfl rfl (by simp) rfl ?_
                simp only [List.setIfInBounds_toArray, List.set_cons_zero, List.set_cons_succ]
                refine wpTakes_noD (j := 21) (t := 48) (b := false) (c := true) rfl rfl rfl rfl rfl (by simp) rfl ?_
                simp only [List.setIfInBounds_toArray, List.set_cons_zero, List.set_cons_succ]
                refine wpTakes_noD (j := 21) (t := 48) (b := false) (c := true) rfl rfl rfl rfl rfl (by simp) rfl ?_
                simp only [List.setIfInBounds_toArray, List.set_cons_zero, List.set_cons_succ]
                refine wpTakes_noD (j := 21) (t := 48) (b := false) (c := true) rfl rfl rfl rfl rfl (by simp) rfl ?_
                simp only [List.setIfInBounds_toArray, List.set_cons_zero, List.set_cons_succ]
                refine wpTakes_noD (j := 21) (t := 48) (b := false) (c := true) rfl rfl rfl rfl rfl (by simp) rfl ?_
                simp only [List.setIfInBounds_toArray, List.set_cons_zero, List.set_cons_succ]
                refine wpTakes_noD (j := 21) (t := 48) (b := false) (c := true) rfl rfl rfl rfl rfl (by simp) rfl ?_
                simp only [List.setIfInBounds_toArray, List.set_cons_zero, List.set_cons_succ]
                refine wpTakes_noD (j := 21) (t := 48) (b := false) (c := true) rfl rfl rfl rfl rfl (by simp) rfl ?_
                simp only [List.setIfInBounds_toArray, List.set_cons_zero, List.set_cons_succ]
                refine wpTakes_noD (j := 21) (t := 48) (b := false) (c := true) rfl rfl rfl rfl rfl (by simp) rfl ?_
                simp only [List.setIfInBounds_toArray, List.set_cons_zero, List.set_cons_succ]
                apply wpTakes_gdD (j := 18) (t := 45) (b := false) (c := false) rfl rfl rfl rfl rfl (by simp) rfl
                case hy =>
                  rintro W' ⟨e1, e2⟩
                  go_simp
                  first | done | with_reducible rfl
                simp only [List.setIfInBounds_toArray, List.set_cons_zero, List.set_cons_succ]
                apply wpTakes_consD rfl rfl (by rfl)
                case hy =>
                  rintro W' ⟨e1, e2⟩
                  go_simp
                  first | done | with_reducible rfl
                simp only [List.setIfInBounds_toArray, List.set_cons_zero, List.set_cons_succ]
                apply wpTakes_consD rfl rfl (by rfl)
                case hy =>
                  rintro W' ⟨e1, e2⟩
                  go_simp
                  first | done | with_reducible rfl
                simp only [List.setIfInBounds_toArray, List.set_cons_zero, List.set_cons_succ]
                apply wpTakes_gdD (j := 33) (t := 60) (b := false) (c := false) rfl rfl rfl rfl rfl (by simp) rfl
                case hy =>
                  rintro W' ⟨e1, e2⟩
                  go_simp
                  first | done | with_reducible rfl
                simp only [List.setIfInBounds_toArray, List.set_cons_zero, List.set_cons_succ]
                apply wpTakes_gdD (j := 33) (t := 60) (b := false) (c := false) rfl rfl rfl rfl rfl (by simp) rfl
                case hy =>
                  rintro W' ⟨e1, e2⟩
                  have u0 := e1.cell (i := 0) rfl
                  have u1 := e1.cell (i := 1) rfl
                  have u2 := e1.cell (i := 2) rfl
                  obtain ⟨d0, d1, d2, d3⟩ := e2.coll
                  go_simp
                  first | done | with_reducible rfl
                simp only [List.setIfInBounds_toArray, List.set_cons_zero, List.set_cons_succ]
                apply wpTakes_gdD (j := 33) (t := 60) (b := false) (c := false) rfl rfl rfl rfl rfl (by simp) rfl
                case hy =>
                  rintro W' ⟨e1, e2⟩
                  have u0 := e1.cell (i := 0) rfl
                  have u1 := e1.cell (i := 1) rfl
                  have u2 := e1.cell (i := 2) rfl
                  obtain ⟨d0, d1, d2, d3⟩ := e2.coll
                  go_simp
                  first | done | with_reducible rfl
                simp only [List.setIfInBounds_toArray, List.set_cons_zero, List.set_cons_succ]
                apply wpTakes_gdD (j := 33) (t := 60) (b := false) (c := false) rfl rfl rfl rfl rfl (by simp) rfl
                case hy =>
                  rintro W' ⟨e1, e2⟩
                  go_simp
                  first | done | with_reducible rfl
                simp only [List.setIfInBounds_toArray, List.set_cons_zero, List.set_cons_succ]
                apply wpTakes_gdD (j := 33) (t := 60) (b := false) (c := false) rfl rfl rfl rfl rfl (by simp) rfl
                case hy =>
                  rintro W' ⟨e1, e2⟩
                  have u0 := e1.cell (i := 0) rfl
                  have u1 := e1.cell (i := 1) rfl
                  have u2 := e1.cell (i := 2) rfl
                  obtain ⟨d0, d1, d2, d3⟩ := e2.coll
                  go_simp
                  first | done | with_reducible rfl
                simp only [List.setIfInBounds_toArray, List.set_cons_zero, List.set_cons_succ]
                apply wpTakes_gdD (j := 33) (t := 60) (b := false) (c := false) rfl rfl rfl rfl rfl (by simp) rfl
                case hy =>
                  rintro W' ⟨e1, e2⟩
                  go_simp
                  first | done | with_reducible rfl
                simp only [List.setIfInBounds_toArray, List.set_cons_zero, List.set_cons_succ]
                apply wpTakes_gdD (j := 33) (t := 60) (b := false) (c := false) rfl rfl rfl rfl rfl (by simp) rfl
                case hy =>
                  rintro W' ⟨e1, e2⟩
                  have u0 := e1.cell (i := 0) rfl
                  have u1 := e1.cell (i := 1) rfl
                  have u2 := e1.cell (i := 2) rfl
                  obtain ⟨d0, d1, d2, d3⟩ := e2.coll
                  go_simp
                  first | done | with_reducible rfl
                simp only [List.setIfInBounds_toArray, List.set_cons_zero, List.set_cons_succ]
                refine wpSeqR_cons rfl ?_
                gi_wp2_with (fail)
                refine (callsIn_wide.2 (HRL2.out _ (bstep HBWA.out (Below.refl _ _).drew))).mono ?_
                rintro e W2 ⟨a9, n9, k9, rfl, hr9, hb2⟩
                have HBX1 := Lib.hid (bstep (Below.refl WA.heap.size WA).drew hb2)
                have HSA2 := Lib.hid (HSA.out a9 n9 k9 _ HBX1.out hr9)
                clear hb2 hr9
                gi_wp2_with (fail)
                refine ⟨fun _ => ⟨HK7.out.below HBX1.out, HXA.out.below HBX1.out⟩, ?_⟩
                refine wpSeqR_cons rfl ?_
                gi_wp2_with (fail)
                refine (callsIn_wide.2 HSA2.out).mono ?_
                rintro e W4 ⟨rfl, hb4⟩
                have HBX := Lib.hid (bstep HBX1.out hb4)
                clear hb4 u0 u1 u2 q0 q1 q2 q3
                gi_wp2_with (fail)
                refine ⟨fun _ => ⟨HK7.out.below HBX.out, HXA.out.below HBX.out⟩, ?_⟩
                refine wpSeqR_cons rfl ?_
                gi_wp2_with (fail)
                refine ⟨fun _ => ⟨HK7.out.below HBX.out, HXA.out.below HBX.out⟩, ?_⟩
                refine wpSeqR_cons rfl ?_
                gi_wp2_with (fail)
                refine ⟨fun _ => ⟨HK7.out.below HBX.out, HXA.out.below HBX.out⟩, ?_⟩
                refine wpSeqR_nilN ?_
                gi_wp2_with (fail)
                cases r
                · have HF := Lib.hid (HNO.out (by rw [HC2.out]; simp))
                  go_wp2_with (fail)
                  go_ret
                  exact ⟨by rw [HF.out]; rfl, bstep HBWA.out HBX.out⟩
                · have HC3 := Lib.hid (show okUs n3 (Go.Ap.hasR x) (-1) us = okUs n3 (Go.Ap.hasR x) (hi : Int) (us.drop (k + 1)) from by rw [HC2.out, show decide (b < (lo : Int)) = true by simp; omega]; rfl)
                  have HKX := Lib.hid (HK7.out.below HBX.out)
                  have u0 := HKX.out.cell (i := 0) rfl
                  have HAX := Lib.hid (HARA.out.kept HBX.out)
                  have HBY := Lib.hid (bstep HBA.out HBX.out)
                  go_wp2_with (fail)
                  clear u0
                  go_loopw [8] (fun qv wr => ∃ q : Nat, lo ≤ q ∧ q ≤ hi ∧ qv = .int .i64 q ∧ Below w5.heap.size w5 wr ∧ ArrG Value.bool wr B 4 (inA n3 (us.take k) lo q) ∧ wr.cell? ⟨b7, 1, none⟩ = some (.int .i64 (hi : Int))) (fun qv _ => hi - (intOf qv).toNat)
                  case atStart => exact ⟨lo, Nat.le_refl _, by omega, rfl, HBY.out, by
                    have := HAX.out
                    rwa [show inA n3 (us.take k) 0 0 = inA n3 (us.take k) lo lo from by unfold inA; apply List.map_congr_left; intro j _; rw [inA_off, inA_off]] at this, HKX.out.cell (i := 1) rfl⟩
                  case round =>
                    obtain ⟨wq, rfl⟩ : ∃ wq : World, wq = wr := ⟨_, rfl⟩
                    obtain ⟨q, hlq, hqh, rfl, hbq, harq, hcq⟩ := hrel
                    have HBQ := Lib.hid hbq
                    have HARQ := Lib.hid harq
                    have HCQ := Lib.hid hcq
                    clear hbq harq
                    by_cases hqlt : q < hi
                    · have i2 : (q : Int) < (n3 : Int) := by omega
                      have hfr := HARQ.out.free q
                      obtain ⟨y, hy⟩ : ∃ y, (inA n3 (us.take k) lo q)[q]? = some y := ⟨_, List.getElem?_eq_getElem (by rw [inA_len]; omega)⟩
                      have hcc := HARQ.out.cell hy
                      have HS2 := Lib.hid (HARQ.out.set q true)
                      have HD2 := Lib.hid (show (wq.setCell ⟨B, q, none⟩ (.bool true)).cell? ⟨b7, 1, none⟩ = some (.int .i64 (hi : Int)) by
                        have gs := grownBy_setCell' wq B (.bool true)
                        have gs2 : wq.grownBy (wq.setCell ⟨B, q, none⟩ (.bool true)) (some B) := ⟨gs.os, gs.tape, gs.output, by simp [World.setCell], fun k hk hne => by simp [World.setCell, Array.getElem?_modify, show ¬ B = k from fun e => hne (by rw [e])]⟩
                        exact gs2.cell HCQ.out (by simp; omega))
                      clear hy
                      go_wp2_with (fail)
                      go_roundw
                      case rel => exact ⟨q + 1, by omega, by omega, by simp, HBQ.out.setCell (by have := HBE.out; simp; omega) _, by rw [← inA_set hlq]; exact HS2.out, HD2.out⟩
                      case measure => simp [intOf]; omega
                    · obtain rfl : q = hi := by omega
                      go_wp2_with (fail)
                      go_roundw
                      case rel => exact ⟨k + 1, (q : Int), by omega, by simp; omega, HC3.out, .inr ⟨k, _, rfl, HUK.out, rfl⟩, HBQ.out, by rw [← inA_next HUK.out rfl rfl 0]; exact HARQ.out⟩
                      case measure => simp [intOf]; omega
              · subst hj
                obtain ⟨v', bv, ov, hv', hbb, ⟨_, _, _, _, gv, _⟩⟩ := (HU.out WA HBWA.out).at (show j < n by omega)
                injection hbb with hbb
                injection hbb with hbb1 hbb2 _
                subst hbb1 hbb2
                obtain rfl : v' = v := Option.some.inj (hv'.symm.trans hv)
                clear hv hv'
                have d0 : decide (0 < j + 1) = true := by simp
                have d0' : decide ((0 : Int) < (j : Int) + 1) = true := decide_eq_true (by omega)
                have i3 : (j : Int) < (n : Int) := by omega
                rw [show ((j + 1 : Nat) : Int) = (j : Int) + 1 by omega]
                by_cases p4 : (lo : Int) ≤ v'.hi
                · have t4 : decide ((lo : Int) ≤ v'.hi) = true := by simpa using p4
                  have HF := Lib.hid (HNO.out (by rw [HC2.out, show decide (b < (lo : Int)) = false by simp; omega]; simp))
                  have hw1 : IntKind.i64.wrap ((j : Int) + 1 - 1) = (j : Int) := by rw [show (j : Int) + 1 - 1 = (j : Int) by omega]; exact Go.IntWalk.i64_in _ (by omega)
                  have hw2 : IntKind.i64.wrap (j : Int) = (j : Int) := Go.IntWalk.i64_in _ (by omega)
                  go_wp2_with (fail)
                  refine (wpIn_wide (n := 20)).1 ?_
                  refine wpIn_region_heldN (fun W' => BlkK W' b7 #[.int .i64 lo, .int .i64 hi, .slice ar nr kr] 36 ∧ BlkK W' w.heap.size #[.string (bs x.sec), .slice a1 n1 c1, .slice a2 n2 c2, .slice a3 n3 c3] 26 ∧ W'.cell? ⟨bb, oo + j * 3 + 1, none⟩ = some (.int .i64 v'.hi)) 45 [0, 1, 2, 3, 4, 5, 6, 7, 8, 9, 10, 11, 12, 13, 14, 15, 16, 17, 18, 19, 20, 21, 22, 23, 24, 25, 26, 27, 28, 29, 30, 31, 32, 33, 34, 35, 36, 37, 38, 39, 40, 41, 42, 43, 44] [] (fun _ => trivial) (by kernel_rfl) (by kernel_rfl) ⟨HK7.out, HXA.out, gv⟩ ?_
                  apply wpTakes_consD rfl rfl (by rfl)
                  case hy =>
                    rintro W' ⟨e1, e2, e3⟩
                    go_simp
                    first | done | with_reducible rfl
                  simp only [List.setIfInBounds_toArray, List.set_cons_zero, List.set_cons_succ]
                  apply wpTakes_consD rfl rfl (by rfl)
                  case hy =>
                    rintro W' ⟨e1, e2, e3⟩
                    have u0 := e1.cell (i := 0) rfl
                    have u1 := e1.cell (i := 1) rfl
                    have u2 := e1.cell (i := 2) rfl
                    obtain ⟨d0, d1, d2, d3⟩ := e2.coll
                    go_simp
                    first | done | with_reducible rfl
                  simp only [List.setIfInBounds_toArray, List.set_cons_zero, List.set_cons_succ]
                  apply wpTakes_consD rfl rfl (by rfl)
                  case hy =>
                    rintro W' ⟨e1, e2, e3⟩
                    go_simp
                    first | done | with_reducible rfl
                  simp only [List.setIfInBounds_toArray, List.set_cons_zero, List.set_cons_succ]
                  apply wpTakes_consD rfl rfl (by rfl)
                  case hy =>
                    rintro W' ⟨e1, e2, e3⟩
                    go_simp
                    first | done | with_reducible rfl
                  simp only [List.setIfInBounds_toArray, List.set_cons_zero, List.set_cons_succ]
                  apply wpTakes_gdD (j := 3) (t := 30) (b := false) (c := false) rfl rfl rfl rfl rfl (by simp) rfl
                  case hy =>
                    rintro W' ⟨e1, e2, e3⟩
                    go_simp
                    first | done | with_reducible rfl
                  simp only [List.setIfInBounds_toArray, List.set_cons_zero, List.set_cons_succ]
                  apply wpTakes_gdD (j := 3) (t := 30) (b := false) (c := false) rfl rfl rfl rfl rfl (by simp) rfl
                  case hy =>
                    rintro W' ⟨e1, e2, e3⟩
                    have u0 := e1.cell (i := 0) rfl
                    have u1 := e1.cell (i := 1) rfl
                    have u2 := e1.cell (i := 2) rfl
                    obtain ⟨d0, d1, d2, d3⟩ := e2.coll
                    go_simp
                    first | done | with_reducible rfl
                  simp only [List.setIfInBounds_toArray, List.set_cons_zero, List.set_cons_succ]
                  apply wpTakes_gdD (j := 3) (t := 30) (b := false) (c := false) rfl rfl rfl rfl rfl (by simp) rfl
                  case hy =>
                    rintro W' ⟨e1, e2, e3⟩
                    go_simp
                    first | done | with_reducible rfl
                  simp only [List.setIfInBounds_toArray, List.set_cons_zero, List.set_cons_succ]
                  apply wpTakes_gdD (j := 3) (t := 30) (b := false) (c := false) rfl rfl rfl rfl rfl (by simp) rfl
                  case hy =>
                    rintro W' ⟨e1, e2, e3⟩
                    have u0 := e1.cell (i := 0) rfl
                    have u1 := e1.cell (i := 1) rfl
                    have u2 := e1.cell (i := 2) rfl
                    obtain ⟨d0, d1, d2, d3⟩ := e2.coll
                    go_simp
                    first | done | with_reducible rfl
                  simp only [List.setIfInBounds_toArray, List.set_cons_zero, List.set_cons_succ]
                  apply wpTakes_gdD (j := 3) (t := 30) (b := false) (c := false) rfl rfl rfl rfl rfl (by simp) rfl
                  case hy =>
                    rintro W' ⟨e1, e2, e3⟩
                    go_simp
                    first | done | with_reducible rfl
                  simp only [List.setIfInBounds_toArray, List.set_cons_zero, List.set_cons_succ]
                  apply wpTakes_consD rfl rfl (by rfl)
                  case hy =>
                    rintro W' ⟨e1, e2, e3⟩
                    go_simp
                    first | done | with_reducible rfl
                  simp only [List.setIfInBounds_toArray, List.set_cons_zero, List.set_cons_succ]
                  apply wpTakes_consD rfl rfl (by rfl)
                  case hy =>
                    rintro W' ⟨e1, e2, e3⟩
                    go_simp
                    first | done | with_reducible rfl
                  simp only [List.setIfInBounds_toArray, List.set_cons_zero, List.set_cons_succ]
                  apply wpTakes_gdD (j := 10) (t := 37) (b := false) (c := false) rfl rfl rfl rfl rfl (by simp) rfl
                  case hy =>
                    rintro W' ⟨e1, e2, e3⟩
                    go_simp
                    first | done | with_reducible rfl
                  simp only [List.setIfInBounds_toArray, List.set_cons_zero, List.set_cons_succ]
                  apply wpTakes_gdD (j := 10) (t := 37) (b := false) (c := false) rfl rfl rfl rfl rfl (by simp) rfl
                  case hy =>
                    rintro W' ⟨e1, e2, e3⟩
                    have u0 := e1.cell (i := 0) rfl
                    have u1 := e1.cell (i := 1) rfl
                    have u2 := e1.cell (i := 2) rfl
                    obtain ⟨d0, d1, d2, d3⟩ := e2.coll
                    go_simp
                    first | done | with_reducible rfl
                  simp only [List.setIfInBounds_toArray, List.set_cons_zero, List.set_cons_succ]
                  apply wpTakes_gdD (j := 10) (t := 37) (b := false) (c := false) rfl rfl rfl rfl rfl (by simp) rfl
                  case hy =>
                    rintro W' ⟨e1, e2, e3⟩
                    go_simp
                    first | done | with_reducible rfl
                  simp only [List.setIfInBounds_toArray, List.set_cons_zero, List.set_cons_succ]
                  apply wpTakes_gdD (j := 10) (t := 37) (b := false) (c := false) rfl rfl rfl rfl rfl (by simp) rfl
                  case hy =>
                    rintro W' ⟨e1, e2, e3⟩
                    have u0 := e1.cell (i := 0) rfl
                    have u1 := e1.cell (i := 1) rfl
                    have u2 := e1.cell (i := 2) rfl
                    obtain ⟨d0, d1, d2, d3⟩ := e2.coll
                    go_simp
                    first | done | with_reducible rfl
                  simp only [List.setIfInBounds_toArray, List.set_cons_zero, List.set_cons_succ]
                  apply wpTakes_gdD (j := 10) (t := 37) (b := false) (c := false) rfl rfl rfl rfl rfl (by simp) rfl
                  case hy =>
                    rintro W' ⟨e1, e2, e3⟩
                    go_simp
                    first | done | with_reducible rfl
                  simp only [List.setIfInBounds_toArray, List.set_cons_zero, List.set_cons_succ]
                  apply wpTakes_gdD (j := 10) (t := 37) (b := false) (c := false) rfl rfl rfl rfl rfl (by simp) rfl
                  case hy =>
                    rintro W' ⟨e1, e2, e3⟩
                    go_simp
                    first | done | with_reducible rfl
                  simp only [List.setIfInBounds_toArray, List.set_cons_zero, List.set_cons_succ]
                  apply wpTakes_consD rfl rfl (by rfl)
                  case hy =>
                    rintro W' ⟨e1, e2, e3⟩
                    go_simp
                    first | done | with_reducible rfl
                  simp only [List.setIfInBounds_toArray, List.set_cons_zero, List.set_cons_succ]
                  apply wpTakes_consD rfl rfl (by rfl)
                  case hy =>
                    rintro W' ⟨e1, e2, e3⟩
                    go_simp
                    first | done | with_reducible rfl
                  simp only [List.setIfInBounds_toArray, List.set_cons_zero, List.set_cons_succ]
                  apply wpTakes_gdD (j := 18) (t := 45) (b := false) (c := false) rfl rfl rfl rfl rfl (by simp) rfl
                  case hy =>
                    rintro W' ⟨e1, e2, e3⟩
                    go_simp
                    first | done | with_reducible rfl
                  simp only [List.setIfInBounds_toArray, List.set_cons_zero, List.set_cons_succ]
                  apply wpTakes_gdD (j := 18) (t := 45) (b := false) (c := false) rfl rfl rfl rfl rfl (by simp) rfl
                  case hy =>
                    rintro W' ⟨e1, e2, e3⟩
                    go_simp
                    first | done | with_reducible rfl
                  simp only [List.setIfInBounds_toArray, List.set_cons_zero, List.set_cons_succ]
                  apply wpTakes_gdD (j := 18) (t := 45) (b := false) (c := false) rfl rfl rfl rfl rfl (by simp) rfl
                  case hy =>
                    rintro W' ⟨e1, e2, e3⟩
                    go_simp
                    first | done | with_reducible rfl
                  simp only [List.setIfInBounds_toArray, List.set_cons_zero, List.set_cons_succ]
                  apply wpTakes_gdD (j := 21) (t := 48) (b := true) (c := true) rfl rfl rfl rfl rfl (by simp) rfl
                  case hy =>
                    rintro W' ⟨e1, e2, e3⟩
                    go_simp
                    first | done | with_reducible rfl
                  simp only [List.setIfInBounds_toArray, List.set_cons_zero, List.set_cons_succ]
                  apply wpTakes_gdD (j := 21) (t := 48) (b := true) (c := true) rfl rfl rfl rfl rfl (by simp) rfl
                  case hy =>
                    rintro W' ⟨e1, e2, e3⟩
                    have u0 := e1.cell (i := 0) rfl
                    have u1 := e1.cell (i := 1) rfl
                    have u2 := e1.cell (i := 2) rfl
                    obtain ⟨d0, d1, d2, d3⟩ := e2.coll
                    go_simp
                    first | done | with_reducible rfl
                  simp only [List.setIfInBounds_toArray, List.set_cons_zero, List.set_cons_succ]
                  apply wpTakes_gdD (j := 21) (t := 48) (b := true) (c := true) rfl rfl rfl rfl rfl (by simp) rfl
                  case hy =>
                    rintro W' ⟨e1, e2, e3⟩
                    go_simp
                    first | done | with_reducible rfl
                  simp only [List.setIfInBounds_toArray, List.set_cons_zero, List.set_cons_succ]
                  apply wpTakes_gdD (j := 21) (t := 48) (b := true) (c := true) rfl rfl rfl rfl rfl (by simp) rfl
                  case hy =>
                    rintro W' ⟨e1, e2, e3⟩
                    go_simp
                    first | done | with_reducible rfl
                  simp only [List.setIfInBounds_toArray, List.set_cons_zero, List.set_cons_succ]
                  apply wpTakes_gdD (j := 21) (t := 48) (b := true) (c := true) rfl rfl rfl rfl rfl (by simp) rfl
                  case hy =>
                    rintro W' ⟨e1, e2, e3⟩
                    go_simp
                    first | done | with_reducible rfl
                  simp only [List.setIfInBounds_toArray, List.set_cons_zero, List.set_cons_succ]
                  apply wpTakes_gdD (j := 21) (t := 48) (b := true) (c := true) rfl rfl rfl rfl rfl (by simp) rfl
                  case hy =>
                    rintro W' ⟨e1, e2, e3⟩
                    go_simp
                    first | done | with_reducible rfl
                  simp only [List.setIfInBounds_toArray, List.set_cons_zero, List.set_cons_succ]
                  apply wpTakes_gdD (j := 21) (t := 48) (b := true) (c := true) rfl rfl rfl rfl rfl (by simp) rfl
                  case hy =>
                    rintro W' ⟨e1, e2, e3⟩
                    go_simp
                    first | done | with_reducible rfl
                  simp only [List.setIfInBounds_toArray, List.set_cons_zero, List.set_cons_succ]
                  apply wpTakes_gdD (j := 21) (t := 48) (b := true) (c := true) rfl rfl rfl rfl rfl (by simp) rfl
                  case hy =>
                    rintro W' ⟨e1, e2, e3⟩
                    have u0 := e1.cell (i := 0) rfl
                    have u1 := e1.cell (i := 1) rfl
                    have u2 := e1.cell (i := 2) rfl
                    obtain ⟨d0, d1, d2, d3⟩ := e2.coll
                    go_simp
                    first | done | with_reducible rfl
                  simp only [List.setIfInBounds_toArray, List.set_cons_zero, List.set_cons_succ]
                  apply wpTakes_gdD (j := 21) (t := 48) (b := true) (c := true) rfl rfl rfl rfl rfl (by simp) rfl
                  case hy =>
                    rintro W' ⟨e1, e2, e3⟩
                    go_simp
                    first | done | with_reducible rfl
                  simp only [List.setIfInBounds_toArray, List.set_cons_zero, List.set_cons_succ]
                  apply wpTakes_gdD (j := 18) (t := 45) (b := false) (c := false) rfl rfl rfl rfl rfl (by simp) rfl
                  case hy =>
                    rintro W' ⟨e1, e2, e3⟩
                    go_simp
                    first | done | with_reducible rfl
                  simp only [List.setIfInBounds_toArray, List.set_cons_zero, List.set_cons_succ]
                  apply wpTakes_consD rfl rfl (by rfl)
                  case hy =>
                    rintro W' ⟨e1, e2, e3⟩
                    go_simp
                    first | done | with_reducible rfl
                  simp only [List.setIfInBounds_toArray, List.set_cons_zero, List.set_cons_succ]
                  apply wpTakes_consD rfl rfl (by rfl)
                  case hy =>
                    rintro W' ⟨e1, e2, e3⟩
                    go_simp
                    first | done | with_reducible rfl
                  simp only [List.setIfInBounds_toArray, List.set_cons_zero, List.set_cons_succ]
                  refine wpTakes_noD (j := 33) (t := 60) (b := true) (c := false) rfl rfl rfl rfl rfl (by simp) rfl ?_
                  simp only [List.setIfInBounds_toArray, List.set_cons_zero, List.set_cons_succ]
                  refine wpTakes_noD (j := 33) (t := 60) (b := true) (c := false) rfl rfl rfl rfl rfl (by simp) rfl ?_
                  simp only [List.setIfInBounds_toArray, List.set_cons_zero, List.set_cons_succ]
                  refine wpTakes_noD (j := 33) (t := 60) (b := true) (c := false) rfl rfl rfl rfl rfl (by simp) rfl ?_
                  simp only [List.setIfInBounds_toArray, List.set_cons_zero, List.set_cons_succ]
                  refine wpTakes_noD (j := 33) (t := 60) (b := true) (c := false) rfl rfl rfl rfl rfl (by simp) rfl ?_
                  simp only [List.setIfInBounds_toArray, List.set_cons_zero, List.set_cons_succ]
                  refine wpTakes_noD (j := 33) (t := 60) (b := true) (c := false) rfl rfl rfl rfl rfl (by simp) rfl ?_
                  simp only [List.setIfInBounds_toArray, List.set_cons_zero, List.set_cons_succ]
                  refine wpTakes_noD (j := 33) (t := 60) (b := true) (c := false) rfl rfl rfl rfl rfl (by simp) rfl ?_
                  simp only [List.setIfInBounds_toArray, List.set_cons_zero, List.set_cons_succ]
                  refine wpTakes_noD (j := 33) (t := 60) (b := true) (c := false) rfl rfl rfl rfl rfl (by simp) rfl ?_
                  simp only [List.setIfInBounds_toArray, List.set_cons_zero, List.set_cons_succ]
                  refine wpTakes_noD (j := 33) (t := 60) (b := true) (c := false) rfl rfl rfl rfl rfl (by simp) rfl ?_
                  simp only [List.setIfInBounds_toArray, List.set_cons_zero, List.set_cons_succ]
                  refine wpTakes_noD (j := 33) (t := 60) (b := true) (c := false) rfl rfl rfl rfl rfl (by simp) rfl ?_
                  simp only [List.setIfInBounds_toArray, List.set_cons_zero, List.set_cons_succ]
                  refine wpTakes_noD (j := 33) (t := 60) (b := true) (c := false) rfl rfl rfl rfl rfl (by simp) rfl ?_
                  simp only [List.setIfInBounds_toArray, List.set_cons_zero, List.set_cons_succ]
                  apply wpTakes_consD rfl rfl (by rfl)
                  case hy =>
                    rintro W' ⟨e1, e2, e3⟩
                    go_simp
                    first | done | with_reducible rfl
                  simp only [List.setIfInBounds_toArray, List.set_cons_zero, List.set_cons_succ]
                  refine wpTakes_nil ?_
                  refine wpSeqR_nilN ?_
                  gi_wp2_with (fail)
                  go_wp2_with (fail)
                  go_ret
                  exact ⟨by rw [HF.out]; rfl, bstep HBWA.out (Below.refl _ _).drew⟩
                · have t4 : decide ((lo : Int) ≤ v'.hi) = false := by simpa using p4
                  have hw1 : IntKind.i64.wrap ((j : Int) + 1 - 1) = (j : Int) := by rw [show (j : Int) + 1 - 1 = (j : Int) by omega]; exact Go.IntWalk.i64_in _ (by omega)
                  have hw2 : IntKind.i64.wrap (j : Int) = (j : Int) := Go.IntWalk.i64_in _ (by omega)
                  go_wp2_with (fail)
                  have HKP := Lib.hid (show ∀ W, Below WA.heap.size WA W → (W.cell? ⟨b7, 0, none⟩ = some (.int .i64 (lo : Int)) ∧ W.cell? ⟨b7, 1, none⟩ = some (.int .i64 (hi : Int)) ∧ W.cell? ⟨b7, 2, none⟩ = some (.slice ar nr kr) ∧ W.cell? ⟨w.heap.size, 0, none⟩ = some (.string (bs x.sec)) ∧ W.cell? ⟨w.heap.size, 1, none⟩ = some (.slice a1 n1 c1) ∧ W.cell? ⟨w.heap.size, 2, none⟩ = some (.slice a2 n2 c2) ∧ W.cell? ⟨w.heap.size, 3, none⟩ = some (.slice a3 n3 c3) ∧ W.cell? ⟨bb, oo + j * 3 + 1, none⟩ = some (.int .i64 v'.hi) ∧ Below WA.heap.size WA W) from fun W hb => ⟨cell_keep hb (u0), cell_keep hb (u1), cell_keep hb (u2), cell_keep hb (q0), cell_keep hb (q1), cell_keep hb (q2), cell_keep hb (q3), cell_keep hb (gv), hb⟩)
                  go_region_held3 (fun W => W.cell? ⟨b7, 0, none⟩ = some (.int .i64 (lo : Int)) ∧ W.cell? ⟨b7, 1, none⟩ = some (.int .i64 (hi : Int)) ∧ W.cell? ⟨b7, 2, none⟩ = some (.slice ar nr kr) ∧ W.cell? ⟨w.heap.size, 0, none⟩ = some (.string (bs x.sec)) ∧ W.cell? ⟨w.heap.size, 1, none⟩ = some (.slice a1 n1 c1) ∧ W.cell? ⟨w.heap.size, 2, none⟩ = some (.slice a2 n2 c2) ∧ W.cell? ⟨w.heap.size, 3, none⟩ = some (.slice a3 n3 c3) ∧ W.cell? ⟨bb, oo + j * 3 + 1, none⟩ = some (.int .i64 v'.hi) ∧ Below WA.heap.size WA W)
                    ((refine HKP.out _ ?_; first | exact (Below.refl _ _).drew | (refine bstep ?_ hb2; exact (‹_ ∧ _ ∧ _ ∧ _ ∧ _ ∧ _ ∧ _ ∧ _ ∧ Below WA.heap.size WA _›).2.2.2.2.2.2.2.2) | exact (‹_ ∧ _ ∧ _ ∧ _ ∧ _ ∧ _ ∧ _ ∧ _ ∧ Below WA.heap.size WA _›).2.2.2.2.2.2.2.2))
                    (first | (go_at_call 67; refine Calls.mono (HRL2.out _ ?_) ?_; exact bstep HBWA.out (‹_ ∧ _ ∧ _ ∧ _ ∧ _ ∧ _ ∧ _ ∧ _ ∧ Below WA.heap.size WA _›).2.2.2.2.2.2.2.2; rintro e w' ⟨a9, n9, k9, rfl, hr9, hb2⟩) | (go_at_call 63; refine Calls.mono (HSA.out _ _ _ _ ?_ hr9) ?_; exact (‹_ ∧ _ ∧ _ ∧ _ ∧ _ ∧ _ ∧ _ ∧ _ ∧ Below WA.heap.size WA _›).2.2.2.2.2.2.2.2; rintro e w' ⟨rfl, hb2⟩))
                  have HBX := Lib.hid (‹_ ∧ _ ∧ _ ∧ _ ∧ _ ∧ _ ∧ _ ∧ _ ∧ Below WA.heap.size WA _›).2.2.2.2.2.2.2.2
                  clear hw1 hw2 hb2 u0 u1 u2 q0 q1 q2 q3 gv hr9
                  cases r
                  · have HF := Lib.hid (HNO.out (by rw [HC2.out]; simp))
                    go_wp2_with (fail)
                    go_ret
                    exact ⟨by rw [HF.out]; rfl, bstep HBWA.out HBX.out⟩
                  · have HC3 := Lib.hid (show okUs n3 (Go.Ap.hasR x) (-1) us = okUs n3 (Go.Ap.hasR x) (hi : Int) (us.drop ((j + 1) + 1)) from by rw [HC2.out, show decide (b < (lo : Int)) = true by simp; omega]; rfl)
                    have HKX := Lib.hid (HK7.out.below HBX.out)
                    have u0 := HKX.out.cell (i := 0) rfl
                    have HAX := Lib.hid (HARA.out.kept HBX.out)
                    have HBY := Lib.hid (bstep HBA.out HBX.out)
                    go_wp2_with (fail)
                    clear u0
                    go_loopw [8] (fun qv wr => ∃ q : Nat, lo ≤ q ∧ q ≤ hi ∧ qv = .int .i64 q ∧ Below w5.heap.size w5 wr ∧ ArrG Value.bool wr B 4 (inA n3 (us.take (j + 1)) lo q) ∧ wr.cell? ⟨b7, 1, none⟩ = some (.int .i64 (hi : Int))) (fun qv _ => hi - (intOf qv).toNat)
                    case atStart => exact ⟨lo, Nat.le_refl _, by omega, rfl, HBY.out, by
                      have := HAX.out
                      rwa [show inA n3 (us.take (j + 1)) 0 0 = inA n3 (us.take (j + 1)) lo lo from by unfold inA; apply List.map_congr_left; intro j _; rw [inA_off, inA_off]] at this, HKX.out.cell (i := 1) rfl⟩
                    case round =>
                      obtain ⟨wq, rfl⟩ : ∃ wq : World, wq = wr := ⟨_, rfl⟩
                      obtain ⟨q, hlq, hqh, rfl, hbq, harq, hcq⟩ := hrel
                      have HBQ := Lib.hid hbq
                      have HARQ := Lib.hid harq
                      have HCQ := Lib.hid hcq
                      clear hbq harq
                      by_cases hqlt : q < hi
                      · have i2 : (q : Int) < (n3 : Int) := by omega
                        have hfr := HARQ.out.free q
                        obtain ⟨y, hy⟩ : ∃ y, (inA n3 (us.take (j + 1)) lo q)[q]? = some y := ⟨_, List.getElem?_eq_getElem (by rw [inA_len]; omega)⟩
                        have hcc := HARQ.out.cell hy
                        have HS2 := Lib.hid (HARQ.out.set q true)
                        have HD2 := Lib.hid (show (wq.setCell ⟨B, q, none⟩ (.bool true)).cell? ⟨b7, 1, none⟩ = some (.int .i64 (hi : Int)) by
                          have gs := grownBy_setCell' wq B (.bool true)
                          have gs2 : wq.grownBy (wq.setCell ⟨B, q, none⟩ (.bool true)) (some B) := ⟨gs.os, gs.tape, gs.output, by simp [World.setCell], fun k hk hne => by simp [World.setCell, Array.getElem?_modify, show ¬ B = k from fun e => hne (by rw [e])]⟩
                          exact gs2.cell HCQ.out (by simp; omega))
                        clear hy
                        go_wp2_with (fail)
                        go_roundw
                        case rel => exact ⟨q + 1, by omega, by omega, by simp, HBQ.out.setCell (by have := HBE.out; simp; omega) _, by rw [← inA_set hlq]; exact HS2.out, HD2.out⟩
                        case measure => simp [intOf]; omega
                      · obtain rfl : q = hi := by omega
                        go_wp2_with (fail)
                        go_roundw
                        case rel => exact ⟨(j + 1) + 1, (q : Int), by omega, by simp, HC3.out, .inr ⟨(j + 1), _, rfl, HUK.out, rfl⟩, HBQ.out, by rw [← inA_next HUK.out rfl rfl 0]; exact HARQ.out⟩
                        case measure => simp [intOf]; omega
      · obtain rfl : k = n := by omega
        have HOK := Lib.hid (show okUs n3 (Go.Ap.hasR x) (-1) us = true from by rw [HCH.out, List.drop_of_length_le (by rw [HLU.out]; exact Nat.le_refl _)]; rfl)
        have HAF := Lib.hid (show ArrG Value.bool wk B 4 (inA n3 us 0 0) by
          have := HAR.out
          rwa [List.take_of_length_le (by rw [HLU.out]; exact Nat.le_refl _)] at this)
        go_wp2_with (fail)
        go_loopw [9] (fun kv wr => ∃ t : Nat, t ≤ n3 ∧ kv = .int .i64 t ∧ Below wk.heap.size wk wr ∧ ∀ j, j < t → (inU us j || comB x j) = true) (fun kv _ => n3 - (intOf kv).toNat)
        case atStart => exact ⟨0, Nat.zero_le _, rfl, Below.refl _ _, fun j hj => by omega⟩
        case round =>
          obtain ⟨wt, rfl⟩ : ∃ wt : World, wt = wr := ⟨_, rfl⟩
          obtain ⟨t, ht, rfl, hbt, hall⟩ := hrel
          have HBT := Lib.hid hbt
          have HALL := Lib.hid hall
          have HXT := Lib.hid (HXK.out.below hbt)
          have HBWT := Lib.hid (bstep HBW.out hbt)
          have HAT := Lib.hid (HAF.out.kept hbt)
          clear hbt hall
          obtain ⟨q0, q1, q2, q3⟩ := HXT.out.coll
          by_cases htn : t < n3
          · obtain ⟨b3, o3, cl, ac, nc, kc, hc, rfl, g9, hI9⟩ := HRL.out t htn
            have HCALL := Lib.hid (fun W (hb : Below w.heap.size w W) => HCM.out t cl hc ac nc kc W hb hI9)
            have gg := cell_keep HBWT.out g9
            have hce := HAT.out.cell (inA_at (m := n3) (us := us) (t := 0) htn)
            have i1 : (t : Int) < (n3 : Int) := by omega
            obtain ⟨ib, hib⟩ : ∃ ib, inU us t = ib := ⟨_, rfl⟩
            rw [hib] at hce
            have HIB := Lib.hid hib
            clear hc hI9 g9 hib
            cases ib
            · obtain ⟨cb, hcb⟩ : ∃ cb, comB x t = cb := ⟨_, rfl⟩
              rw [hcb] at HCALL
              have HCB := Lib.hid hcb
              clear hcb
              go_wp2_with (fail)
              have HKP := Lib.hid (show ∀ W, Below wt.heap.size wt W → (W.cell? ⟨w.heap.size, 0, none⟩ = some (.string (bs x.sec)) ∧ W.cell? ⟨w.heap.size, 1, none⟩ = some (.slice a1 n1 c1) ∧ W.cell? ⟨w.heap.size, 2, none⟩ = some (.slice a2 n2 c2) ∧ W.cell? ⟨w.heap.size, 3, none⟩ = some (.slice (some ⟨b3, o3, none⟩) n3 c3) ∧ W.cell? ⟨b3, o3 + t, none⟩ = some (.slice ac nc kc) ∧ W.cell? ⟨B, t, none⟩ = some (.bool false) ∧ Below wt.heap.size wt W) from fun W hb => ⟨cell_keep hb (q0), cell_keep hb (q1), cell_keep hb (q2), cell_keep hb (q3), cell_keep hb (gg), cell_keep hb (hce), hb⟩)
              go_region_held3 (fun W => W.cell? ⟨w.heap.size, 0, none⟩ = some (.string (bs x.sec)) ∧ W.cell? ⟨w.heap.size, 1, none⟩ = some (.slice a1 n1 c1) ∧ W.cell? ⟨w.heap.size, 2, none⟩ = some (.slice a2 n2 c2) ∧ W.cell? ⟨w.heap.size, 3, none⟩ = some (.slice (some ⟨b3, o3, none⟩) n3 c3) ∧ W.cell? ⟨b3, o3 + t, none⟩ = some (.slice ac nc kc) ∧ W.cell? ⟨B, t, none⟩ = some (.bool false) ∧ Below wt.heap.size wt W)
                ((refine HKP.out _ ?_; first | exact (Below.refl _ _).drew | (refine bstep ?_ hb2; exact (‹_ ∧ _ ∧ _ ∧ _ ∧ _ ∧ _ ∧ Below wt.heap.size wt _›).2.2.2.2.2.2) | exact (‹_ ∧ _ ∧ _ ∧ _ ∧ _ ∧ _ ∧ Below wt.heap.size wt _›).2.2.2.2.2.2))
                (first | (go_at_call 66; refine Calls.mono (HCALL.out _ ?_) ?_; exact bstep HBWT.out (‹_ ∧ _ ∧ _ ∧ _ ∧ _ ∧ _ ∧ Below wt.heap.size wt _›).2.2.2.2.2.2; rintro e w' ⟨rfl, hb2⟩))
              have hbX := (‹_ ∧ _ ∧ _ ∧ _ ∧ _ ∧ _ ∧ Below wt.heap.size wt _›).2.2.2.2.2.2
              clear hb2
              cases cb
              · have HF := Lib.hid (show chkU x us = 20 from by
                  rw [HRR.out, HOK.out, show covR (comB x) n3 us = false from by
                    unfold covR
                    rw [List.all_eq_false]
                    exact ⟨t, List.mem_range.2 htn, by rw [HIB.out, HCB.out]; simp⟩]
                  rfl)
                go_wp2_with (fail)
                go_ret
                exact ⟨by rw [HF.out]; rfl, bstep HBWT.out hbX⟩
              · go_wp2_with (fail)
                go_roundw
                case rel => exact ⟨t + 1, by omega, by simp, bstep HBT.out hbX, fun j hj => by
                  by_cases hjt : j = t
                  · subst hjt; rw [HCB.out]; simp
                  · exact HALL.out j (by omega)⟩
                case measure => simp [intOf]; omega
            · go_wp2_with (fail)
              go_quiet (fail)
              go_wp2_with (fail)
              go_roundw
              case rel => exact ⟨t + 1, by omega, by simp, bstep HBT.out (bdrewN wt nq), fun j hj => by
                by_cases hjt : j = t
                · subst hjt; rw [HIB.out]; simp
                · exact HALL.out j (by omega)⟩
              case measure => simp [intOf]; omega
          · obtain rfl : t = n3 := by omega
            have HF := Lib.hid (show chkU x us = 0 from by
              rw [HRR.out, HOK.out, show covR (comB x) t us = true from by
                unfold covR
                rw [List.all_eq_true]
                exact fun j hj => HALL.out j (List.mem_range.1 hj)]
              rfl)
            go_wp2_with (fail)
            go_ret
            exact ⟨by rw [HF.out]; rfl, HBWT.out⟩
  · have dn : (collC x != 0) = true := by simpa using hok
    have HF := Lib.hid (show chkU x us = 1 from if_pos hok)
    obtain ⟨cc, hcc⟩ : ∃ cc, collC x = cc := ⟨_, rfl⟩
    rw [hcc] at HC dn
    unfold collV at HC ⊢
    clear h hok hu hcc
    go_enter Tryz.func34, Tryz.ntmps34
    obtain ⟨q0, q1, q2, q3⟩ := HBX.out.coll
    go_wp2_with (fail)
    refine (HC.out _ HB4.out).mono ?_
    rintro e w1 ⟨rfl, hb1⟩
    clear q0 q1 q2 q3
    go_wp2_with (fail)
    go_ret
    exact ⟨by rw [HF.out]; rfl, bstep HB4.out hb1⟩
end Go.Proofs.YthfppkcefnmdoaaGreatDoor
