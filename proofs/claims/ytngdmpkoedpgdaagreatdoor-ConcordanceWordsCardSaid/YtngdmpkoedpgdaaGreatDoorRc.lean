/-
  Why a collation is not valid, as the reference says it.
-/
import Derived.Test.YtngdmpkoedpgdaaGreatDoorRn
namespace Go.Proofs.YtngdmpkoedpgdaaGreatDoor
open Go.RowKit Go.Ap Go.Shelf Go.Proofs

attribute [local go_sem] Oper.semAt_some bs_toList empty_toList bs_size bs_extract

set_option maxRecDepth 100000 in
set_option maxHeartbeats 6000000 in
theorem collR (x : Coll) (a1 : Option Addr) (n1 c1 : Nat) (a2 : Option Addr) (n2 c2 : Nat) (a3 : Option Addr) (n3 c3 : Nat) (w : World) (h : CollM w a1 a2 a3 n1 n2 n3 x) :
    Calls Tryz.prog 38 #[collV x.sec a1 n1 c1 a2 n2 c2 a3 n3 c3] w fun e w' => e = .returned (.int .i64 (collC x)) ∧ Below w.heap.size w w' := by
  unfold collV
  have HS := Lib.hid (fun W (hb : Below w.heap.size w W) => headR x.sec a1 n1 c1 x.sigla a2 n2 c2 x.tokens W h.sec (h.sigla.mono (Nat.le_refl _) hb) h.ssig (Toks2.mono h.tokens (Nat.le_refl _) hb))
  by_cases hh : headC x.sec x.sigla x.tokens = 0
  · obtain ⟨g1, g2, g3, g4, g5, g6⟩ := head_zero hh
    rw [hh] at HS
    have hl1 := h.sigla.len
    have hl2 := h.tokens.len
    have hl3 := h.columns.len
    have hs3 := h.columns.small
    have h12 : n1 = n2 := by omega
    have HH := Lib.hid h
    have HR := Lib.hid (show ∀ b, alignB (lensT x.tokens) x.columns = b → collC x = if b = true then 0 else 19 from fun b hb => by
      cases b
      · exact coll_no hh hb
      · exact coll_al hh hb)
    obtain ⟨L, hL⟩ : ∃ L, lensT x.tokens = L := ⟨_, rfl⟩
    have HL := Lib.hid (show L.length = n2 by rw [← hL, lensT_len]; exact hl2)
    have HLA := Lib.hid (show ∀ k l, x.tokens[k]? = some l → nth L k = (l.length : Int) from fun k l h => by rw [← hL]; exact lensT_at h)
    have HN0 := Lib.hid (show NxOK L (List.replicate L.length 0) from NxOK.zero fun j hj => by rw [← hL]; rw [← hL] at hj; exact lensT_nonneg hj)
    rw [hL] at HR
    obtain ⟨cols, hcols⟩ : ∃ cols, x.columns = cols := ⟨_, rfl⟩
    rw [hcols] at HR hl3
    obtain ⟨i0, hi, hz0, hz1, hz2⟩ := info_parts infoInt
    have h32 : n2 ≤ 32 := by omega
    subst h12
    have hmk : ∀ w, (Instr.makeSlice 26 (.int .i64 n1) (.int .i64 n1)).run Tryz.prog w = .ok (.slice (some ⟨w.heap.size, 0, none⟩) n1 n1) (w.alloc (.cells (Array.replicate n1 (.int .i64 0)) 3)) := fun w => by
      have h := run_make_row (P := Tryz.prog) 26 3 i0 (.int .i64 0) Tryz.underlying26 hi hz0 hz1 rfl .i64 .i64 n1 (by rw [hz2]; omega) (by omega) w
      rw [made_ints, show ((List.replicate n1 (0 : Int)).map (Value.int .i64)).toArray = Array.replicate n1 (.int .i64 0) by simp] at h
      exact h
    have HCOLS := Lib.hid hcols
    clear h hh hL g1 g2 g3 g4 g5 g6 hcols
    go_enter Tryz.func38, Tryz.ntmps38
    go_wp2_with (fail)
    obtain ⟨W4, hW4⟩ : ∃ W4, w.alloc (.cells #[.string (bs x.sec), .slice a1 n1 c1, .slice a2 n1 c2, .slice a3 n3 c3] 68) = W4 := ⟨_, rfl⟩
    have B4 : Below w.heap.size w W4 := by rw [← hW4]; exact balloc _ _
    have k1 : W4.cell? ⟨w.heap.size, 1, none⟩ = some (.slice a1 n1 c1) := by rw [← hW4]; exact cell_fresh rfl rfl
    have k2 : W4.cell? ⟨w.heap.size, 2, none⟩ = some (.slice a2 n1 c2) := by rw [← hW4]; exact cell_fresh rfl rfl
    have k3 : W4.cell? ⟨w.heap.size, 3, none⟩ = some (.slice a3 n3 c3) := by rw [← hW4]; exact cell_fresh rfl rfl
    rw [hW4]
    clear hW4
    refine (HS.out _ B4).mono ?_
    rintro e w1 ⟨rfl, hb1⟩
    have q1 := cell_keep hb1 k1
    have Q2 := Lib.hid (cell_keep hb1 k2)
    have Q3 := Lib.hid (cell_keep hb1 k3)
    have B5 := Lib.hid (bstep B4 hb1)
    have H2 := Lib.hid (Toks2.mono HH.out.tokens (Nat.le_refl _) B5.out)
    have H3 := Lib.hid (Rows2.mono HH.out.columns (Nat.le_refl _) B5.out)
    rw [HCOLS.out] at H3
    clear k1 k2 k3 hb1 B4 HH HS HCOLS
    go_wp2_with (fail)
    obtain ⟨W0, hW0⟩ : ∃ W0, w1.alloc (.cells (Array.replicate n1 (.int .i64 0)) 3) = W0 := ⟨_, rfl⟩
    have hA0 : Arr W0 w1.heap.size 3 (List.replicate L.length 0) := by rw [← hW0, HL.out, Arr, show ((List.replicate n1 (0 : Int)).map (Value.int .i64)).toArray = Array.replicate n1 (.int .i64 0) by simp]; exact heap_fresh rfl
    have hb0 : Below w1.heap.size w1 W0 := by rw [← hW0]; exact balloc _ _
    rw [hW0]
    clear hmk hW0 q1
    generalize hBB : w1.heap.size = B at hA0 ⊢
    have HBB := Lib.hid hBB
    have HA0 := Lib.hid hA0
    have HB0 := Lib.hid hb0
    clear hA0 hb0 hBB
    go_loopw [5] (fun iv wr => ∃ (i : Nat) (nx : List Int), i ≤ n3 ∧ iv = .int .i64 i ∧ colsA L cols i = some nx ∧ NxOK L nx ∧ Arr wr B 3 nx ∧ Below w1.heap.size w1 wr) (fun iv _ => n3 - (intOf iv).toNat)
    case atStart => exact ⟨0, _, Nat.zero_le _, rfl, rfl, HN0.out, HA0.out, HB0.out⟩
    case round =>
      obtain ⟨i, nx, hin, rfl, hcs, hnx, har, hb⟩ := hrel
      have HCS := Lib.hid hcs
      have HNX := Lib.hid hnx
      have HAR := Lib.hid har
      have HB := Lib.hid hb
      have q3 := cell_keep hb Q3.out
      clear hcs hnx har
      by_cases hlt : i < n3
      · obtain ⟨c, b, off, v, hc, rfl, hcv0, a', n', c', rfl, hI⟩ := H3.out.at hlt
        have hcv := cell_keep hb hcv0
        have hcd : cols.getD i [] = c := by simp [List.getD_eq_getElem?_getD, hc]
        have HST := Lib.hid (colsA_step HCS.out hcd)
        have HI := Lib.hid hI
        have hln := hI.len
        have hsn := hI.small
        clear hc hcd hI hb
        by_cases hne : n' = n1
        · have en : ((n' : Int) != (n1 : Int)) = false := by rw [bne, Bool.not_eq_false', beq_iff_eq]; omega
          have hcl : c.length = L.length := by rw [HL.out]; omega
          have HCL := Lib.hid hcl
          clear hcl
          go_wp2_with (fail)
          clear q3 hcv
          go_loopw [7, 8] (fun sv kv wi => ∃ (k : Nat) (ny : List Int) (sm : Bool), k ≤ n' ∧ kv = .int .i64 k ∧ sv = .bool sm ∧ colA L c nx k = some (ny, sm) ∧ Arr wi B 3 ny ∧ Below w1.heap.size w1 wi) (fun _ kv _ => n' - (intOf kv).toNat)
          case atStart => exact ⟨0, nx, false, Nat.zero_le _, rfl, rfl, rfl, HAR.out, HB.out⟩
          case round =>
            obtain ⟨k, ny, sm, hk, rfl, rfl, hca, hay, hby⟩ := hrel
            have HCA := Lib.hid hca
            have HNY := Lib.hid (colA_ok HNX.out (by rw [← HCL.out]; omega) hca)
            have HAY := Lib.hid hay
            have HBY := Lib.hid hby
            have q2 := cell_keep hby Q2.out
            clear hca hay
            by_cases hkl : k < n'
            · obtain ⟨bc, oc, rfl, hcc⟩ := Ints.at (HI.out.mono (Nat.le_refl _) HBY.out) (by omega)
              have hcx := hcc k hkl
              obtain ⟨y, hx⟩ : ∃ y, nth c k = y := ⟨_, rfl⟩
              have HSTP := Lib.hid (show colA L c nx (k + 1) = eltA L ny k y sm by rw [colA_step HCA.out, hx])
              rw [hx] at hcx
              obtain ⟨l, b5, o5, v5, hl5, rfl, hcv5, a5, n5, c5, rfl, ht5⟩ := H2.out.at (show k < n1 by omega)
              have hcv6 := cell_keep HBY.out hcv5
              have hLk : nth L k = (n5 : Int) := by rw [HLA.out k l hl5, ht5.len]
              have hs5 := ht5.small
              have hkL : k < L.length := by rw [HL.out]; omega
              have hya := HNY.out.2 k hkL
              have hcy := HAY.out.cell (k := k) (by rw [HNY.out.1]; exact hkL)
              have hfy := HAY.out.free k
              have hkn : (k : Int) < (n1 : Int) := by omega
              clear hcc hx hl5 hcv5 ht5 hby
              by_cases hx1 : y = -1
              · have HN := Lib.hid (HSTP.out.trans (eltA_skip hx1))
                have ex : (y == -1) = true := by rw [beq_iff_eq]; exact hx1
                clear hx1
                go_wp2_with (fail)
                exact ⟨⟨k + 1, ny, sm, by omega, by simp, rfl, HN.out, HAY.out, HBY.out⟩, by simp [intOf]; omega⟩
              · have ex : (y == -1) = false := by rw [beq_eq_false_iff_ne]; exact hx1
                by_cases hxy : y = nth ny k
                · have exy : (y != nth ny k) = false := by rw [bne, Bool.not_eq_false', beq_iff_eq]; exact hxy
                  by_cases hge : (n5 : Int) ≤ y
                  · have dg : decide ((n5 : Int) ≤ y) = true := by simpa using hge
                    have HAL := Lib.hid (align_none (L := L) (cols := cols) (i := i + 1) (by omega) (by rw [HST.out]; exact rowA_none (k := k + 1) (by omega) (HSTP.out.trans (eltA_hi hx1 hxy (by rw [hLk]; exact hge)))))
                    clear hx1 hxy hge hLk hya
                    go_wp2_with (fail)
                    go_quiet (fail)
                    go_wp2_with (fail)
                    go_ret
                    exact ⟨ret_i (HR.out _ HAL.out).symm, bstep B5.out (bstep HBY.out (bdrewN _ _))⟩
                  · have dg : decide ((n5 : Int) ≤ y) = false := by simpa using hge
                    have HN := Lib.hid (HSTP.out.trans (eltA_go hx1 hxy (by rw [hLk]; exact hge)))
                    have g1 : nth ny k + 1 ≤ 9223372036854775807 := by omega
                    have g2 : -9223372036854775808 ≤ nth ny k + 1 := by omega
                    clear hx1 hxy hge hLk
                    go_wp2_with (fail)
                    go_quiet (fail)
                    have HSET := Lib.hid ((HAY.out.kept (bdrewN _ nq)).set k (nth ny k + 1))
                    have HSB := Lib.hid ((bstep HBY.out (bdrewN _ nq)).setCell (p := ⟨B, k, none⟩) (show w1.heap.size ≤ B by rw [HBB.out]; exact Nat.le_refl _) (.int .i64 (nth ny k + 1)))
                    go_wp2_with (fail)
                    exact ⟨⟨k + 1, _, true, by omega, by simp, rfl, HN.out, HSET.out, HSB.out⟩, by simp [intOf]; omega⟩
                · have exy : (y != nth ny k) = true := by rw [bne_iff_ne]; exact hxy
                  have HAL := Lib.hid (align_none (L := L) (cols := cols) (i := i + 1) (by omega) (by rw [HST.out]; exact rowA_none (k := k + 1) (by omega) (HSTP.out.trans (eltA_ne hx1 hxy))))
                  clear hx1 hxy hLk hya
                  go_wp2_with (fail)
                  go_quiet (fail)
                  go_wp2_with (fail)
                  go_ret
                  exact ⟨ret_i (HR.out _ HAL.out).symm, bstep B5.out (bstep HBY.out (bdrewN _ _))⟩
            · obtain rfl : k = n' := by omega
              have HCE := Lib.hid (show colA L c nx c.length = some (ny, sm) by rw [hln]; exact HCA.out)
              clear hby
              cases sm
              · have HAL := Lib.hid (align_none (L := L) (cols := cols) (i := i + 1) (by omega) (by rw [HST.out]; exact rowA_void HCL.out HCE.out))
                go_wp2_with (fail)
                go_ret
                exact ⟨ret_i (HR.out _ HAL.out).symm, bstep B5.out HBY.out⟩
              · have HN := Lib.hid (HST.out.trans (rowA_some HCL.out HCE.out))
                go_wp2_with (fail)
                exact ⟨⟨i + 1, ny, by omega, by simp, HN.out, HNY.out, HAY.out, HBY.out⟩, by simp [intOf]; omega⟩
        · have en : ((n' : Int) != (n1 : Int)) = true := by rw [bne_iff_ne]; omega
          have HAL := Lib.hid (align_none (L := L) (cols := cols) (i := i + 1) (by omega) (by rw [HST.out]; exact rowA_len (by rw [HL.out]; omega)))
          clear hne
          go_wp2_with (fail)
          go_ret
          exact ⟨ret_i (HR.out _ HAL.out).symm, bstep B5.out HB.out⟩
      · obtain rfl : i = n3 := by omega
        have HE := Lib.hid (align_end (L := L) (cols := cols) (nx := nx) (by rw [hl3]; exact HCS.out))
        clear hb
        go_wp2_with (fail)
        clear q3
        go_loopw [9] (fun kv wi => ∃ k : Nat, k ≤ n1 ∧ kv = .int .i64 k ∧ (∀ j, j < k → nth nx j = nth L j) ∧ Arr wi B 3 nx ∧ Below w1.heap.size w1 wi) (fun kv _ => n1 - (intOf kv).toNat)
        case atStart => exact ⟨0, Nat.zero_le _, rfl, fun j hj => by omega, HAR.out, HB.out⟩
        case round =>
          obtain ⟨k, hk, rfl, hj, hay, hby⟩ := hrel
          have HJ := Lib.hid hj
          have HAY := Lib.hid hay
          have HBY := Lib.hid hby
          have q2 := cell_keep hby Q2.out
          clear hj hay hby
          by_cases hkl : k < n1
          · obtain ⟨l, b5, o5, v5, hl5, rfl, hcv5, a5, n5, c5, rfl, ht5⟩ := H2.out.at hkl
            have hcv6 := cell_keep HBY.out hcv5
            have hLk : nth L k = (n5 : Int) := by rw [HLA.out k l hl5, ht5.len]
            have hs5 := ht5.small
            have hkL : k < L.length := by rw [HL.out]; omega
            have hcy := HAY.out.cell (k := k) (by rw [HNX.out.1]; exact hkL)
            clear hl5 hcv5 ht5
            by_cases he : nth nx k = (n5 : Int)
            · have ee : (nth nx k != (n5 : Int)) = false := by rw [bne, Bool.not_eq_false', beq_iff_eq]; exact he
              have HEQ := Lib.hid (show nth nx k = nth L k by rw [hLk]; exact he)
              clear he hLk
              go_wp2_with (fail)
              go_quiet (fail)
              go_wp2_with (fail)
              exact ⟨⟨k + 1, by omega, by simp, fun j hj => by
                by_cases hjk : j = k
                · rw [hjk]; exact HEQ.out
                · exact HJ.out j (by omega), HAY.out.kept (bdrewN _ _), bstep HBY.out (bdrewN _ _)⟩, by simp [intOf]; omega⟩
            · have ee : (nth nx k != (n5 : Int)) = true := by rw [bne_iff_ne]; exact he
              have HAL := Lib.hid (show alignB L cols = false by rw [HE.out]; exact decide_eq_false (ne_at (k := k) (by rw [hLk]; exact he)))
              clear he hLk
              go_wp2_with (fail)
              go_quiet (fail)
              go_wp2_with (fail)
              go_ret
              exact ⟨ret_i (HR.out _ HAL.out).symm, bstep B5.out (bstep HBY.out (bdrewN _ _))⟩
          · obtain rfl : k = n1 := by omega
            have HAL := Lib.hid (show alignB L cols = true by rw [HE.out]; exact decide_eq_true (eq_upto HNX.out.1 (by rw [HL.out]; exact HJ.out)))
            go_wp2_with (fail)
            go_ret
            exact ⟨ret_i (HR.out _ HAL.out).symm, bstep B5.out HBY.out⟩
  · have HR := Lib.hid (coll_head rfl hh)
    obtain ⟨r, hr⟩ : ∃ r, headC x.sec x.sigla x.tokens = r := ⟨_, rfl⟩
    rw [hr] at HS HR hh
    have er : (r != 0) = true := by rw [bne_iff_ne]; exact hh
    clear hr hh h
    go_enter Tryz.func38, Tryz.ntmps38
    go_wp2_with (fail)
    refine (HS.out _ (balloc _ _)).mono ?_
    rintro e w1 ⟨rfl, hb1⟩
    go_wp2_with (fail)
    go_ret
    exact ⟨ret_i HR.out.symm, bstep (balloc _ _) hb1⟩
end Go.Proofs.YtngdmpkoedpgdaaGreatDoor
