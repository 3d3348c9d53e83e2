/-
  The columns of a collation.
-/
import Derived.Test.YtjmebijckcimoaaGreatDoorNd
import Derived.Deep.OwnRows
namespace Go.Proofs.YtjmebijckcimoaaGreatDoor
open Go.RowKit Go.Ap Go.Shelf Go.Proofs

attribute [local go_sem] Oper.semAt_some bs_toList empty_toList bs_size bs_extract
theorem infoInt : (Tryz.prog.info? 3).map (fun i => (i.zero, i.size, i.bytes)) = some (some (.int .i64 0), 1, 8) := by kernel_rfl

set_option maxRecDepth 100000 in
set_option maxHeartbeats 4000000 in
theorem alP (a2 : Option Addr) (n2 c2 : Nat) (tk : List (List Tok)) (a3 : Option Addr) (n3 c3 : Nat) (cols : List (List Int)) (w : World) (h2 : Toks2 w a2 n2 tk) (h3 : Rows2 w a3 n3 cols) (h32 : n2 ≤ 32) :
    Calls Tryz.prog 99 #[.slice a2 n2 c2, .slice a3 n3 c3] w fun e w' => e = .returned (.bool (alignB (lensT tk) cols)) ∧ Below w.heap.size w w' := by
  obtain ⟨i0, hi, hz0, hz1, hz2⟩ := info_parts infoInt
  have hl2 := h2.len
  have hl3 := h3.len
  have hs3 := h3.small
  have H2 := Lib.hid h2
  have H3 := Lib.hid h3
  obtain ⟨L, hL⟩ : ∃ L, lensT tk = L := ⟨_, rfl⟩
  have HL := Lib.hid (show L.length = n2 by rw [← hL, lensT_len]; exact hl2)
  have HLA := Lib.hid (show ∀ k l, tk[k]? = some l → nth L k = (l.length : Int) from fun k l h => by rw [← hL]; exact lensT_at h)
  have HN0 := Lib.hid (show NxOK L (List.replicate L.length 0) from NxOK.zero fun j hj => by rw [← hL]; rw [← hL] at hj; exact lensT_nonneg hj)
  rw [hL]
  clear h2 h3 hL
  have hmk : ∀ w, (Instr.makeSlice 44 (.int .i64 n2) (.int .i64 n2)).run Tryz.prog w = .ok (.slice (some ⟨w.heap.size, 0, none⟩) n2 n2) (w.alloc (.cells (Array.replicate n2 (.int .i64 0)) 3)) := fun w => by
    have h := run_make_row (P := Tryz.prog) 44 3 i0 (.int .i64 0) Tryz.underlying44 hi hz0 hz1 rfl .i64 .i64 n2 (by rw [hz2]; omega) (by omega) w
    rw [made_ints, show ((List.replicate n2 (0 : Int)).map (Value.int .i64)).toArray = Array.replicate n2 (.int .i64 0) by simp] at h
    exact h
  go_enter Tryz.func99, Tryz.ntmps99
  go_wp2_with (fail)
  obtain ⟨W0, hW0⟩ : ∃ W0, w.alloc (.cells (Array.replicate n2 (.int .i64 0)) 3) = W0 := ⟨_, rfl⟩
  have hA0 : Arr W0 w.heap.size 3 (List.replicate L.length 0) := by rw [← hW0, HL.out, Arr, show ((List.replicate n2 (0 : Int)).map (Value.int .i64)).toArray = Array.replicate n2 (.int .i64 0) by simp]; exact heap_fresh rfl
  have hb0 : Below w.heap.size w W0 := by rw [← hW0]; exact balloc _ _
  rw [hW0]
  clear hmk hW0
  generalize hBB : w.heap.size = B at hA0 ⊢
  have HBB := Lib.hid hBB
  have HA0 := Lib.hid hA0
  have HB0 := Lib.hid hb0
  clear hA0 hb0 hBB
  go_loopw [17] (fun iv wr => ∃ (i : Nat) (nx : List Int), i ≤ n3 ∧ iv = .int .i64 i ∧ colsA L cols i = some nx ∧ NxOK L nx ∧ Arr wr B 3 nx ∧ Below w.heap.size w wr) (fun iv _ => n3 - (intOf iv).toNat)
  case atStart => exact ⟨0, _, Nat.zero_le _, rfl, rfl, HN0.out, HA0.out, HB0.out⟩
  case round =>
    obtain ⟨i, nx, hin, rfl, hcs, hnx, har, hb⟩ := hrel
    have HCS := Lib.hid hcs
    have HNX := Lib.hid hnx
    have HAR := Lib.hid har
    have HB := Lib.hid hb
    clear hcs hnx har
    by_cases hlt : i < n3
    · obtain ⟨c, b, off, v, hc, hab, hcv0, a', n', c', rfl, hI⟩ := H3.out.at hlt
      have hcv := cell_keep hb hcv0
      have hcd : cols.getD i [] = c := by simp [List.getD_eq_getElem?_getD, hc]
      have HST := Lib.hid (colsA_step HCS.out hcd)
      have HI := Lib.hid hI
      have hln := hI.len
      have hsn := hI.small
      rw [hab]
      clear hab hc hcd hI hb
      by_cases hne : n' = n2
      · have en : ((n' : Int) != (n2 : Int)) = false := by rw [bne, Bool.not_eq_false', beq_iff_eq]; omega
        have hcl : c.length = L.length := by rw [HL.out]; omega
        have HCL := Lib.hid hcl
        clear hcl
        go_wp2_with (fail)
        obtain ⟨wo, rfl⟩ : ∃ wo : World, wo = wr := ⟨_, rfl⟩
        go_loopw [8, 28] (fun sv kv wi => ∃ (k : Nat) (ny : List Int) (sm : Bool), k ≤ n' ∧ kv = .int .i64 k ∧ sv = .bool sm ∧ colA L c nx k = some (ny, sm) ∧ Arr wi B 3 ny ∧ Below w.heap.size w wi) (fun _ kv _ => n' - (intOf kv).toNat)
        case atStart => exact ⟨0, nx, false, Nat.zero_le _, rfl, rfl, rfl, HAR.out, HB.out⟩
        case round =>
          obtain ⟨k, ny, sm, hk, rfl, rfl, hca, hay, hby⟩ := hrel
          have HCA := Lib.hid hca
          have HNY := Lib.hid (colA_ok HNX.out (by rw [← HCL.out]; omega) hca)
          have HAY := Lib.hid hay
          have HBY := Lib.hid hby
          clear hca hay hby
          by_cases hkl : k < n'
          · obtain ⟨bc, oc, rfl, hcc⟩ := Ints.at (HI.out.mono (Nat.le_refl _) HBY.out) (by omega)
            have hcx := hcc k hkl
            obtain ⟨x, hx⟩ : ∃ x, nth c k = x := ⟨_, rfl⟩
            have HSTP := Lib.hid (show colA L c nx (k + 1) = eltA L ny k x sm by rw [colA_step HCA.out, hx])
            rw [hx] at hcx
            obtain ⟨l, b5, o5, v5, hl5, hab5, hcv5, a5, n5, c5, rfl, ht5⟩ := H2.out.at (show k < n2 by omega)
            have hcv6 := cell_keep HBY.out hcv5
            have hLk : nth L k = (n5 : Int) := by rw [HLA.out k l hl5, ht5.len]
            have hs5 := ht5.small
            have hkL : k < L.length := by rw [HL.out]; omega
            have hya := HNY.out.2 k hkL
            have hcy := HAY.out.cell (k := k) (by rw [HNY.out.1]; exact hkL)
            have hfy := HAY.out.free k
            rw [hab5]
            clear hcc hx hl5 hab5 hcv5 ht5
            by_cases hx1 : x = -1
            · have HN := Lib.hid (HSTP.out.trans (eltA_skip hx1))
              have ex : (x == -1) = true := by rw [beq_iff_eq]; exact hx1
              clear hx1
              go_wp2_with (fail)
              exact ⟨⟨k + 1, ny, sm, by omega, by simp, rfl, HN.out, HAY.out, HBY.out⟩, by simp [intOf]; omega⟩
            · have ex : (x == -1) = false := by rw [beq_eq_false_iff_ne]; exact hx1
              by_cases hxy : x = nth ny k
              · have exy : (x != nth ny k) = false := by rw [bne, Bool.not_eq_false', beq_iff_eq]; exact hxy
                by_cases hge : (n5 : Int) ≤ x
                · have dg : decide ((n5 : Int) ≤ x) = true := by simpa using hge
                  have HR := Lib.hid (align_none (L := L) (cols := cols) (i := i + 1) (by omega) (by rw [HST.out]; exact rowA_none (k := k + 1) (by omega) (HSTP.out.trans (eltA_hi hx1 hxy (by rw [hLk]; exact hge)))))
                  clear hx1 hxy hge hLk hya
                  go_wp2_with (fail)
                  go_ret
                  exact ⟨ret_b HR.out.symm, HBY.out⟩
                · have dg : decide ((n5 : Int) ≤ x) = false := by simpa using hge
                  have HN := Lib.hid (HSTP.out.trans (eltA_go hx1 hxy (by rw [hLk]; exact hge)))
                  have g1 : nth ny k + 1 ≤ 9223372036854775807 := by omega
                  have g2 : -9223372036854775808 ≤ nth ny k + 1 := by omega
                  have HSET := Lib.hid (HAY.out.set k (nth ny k + 1))
                  have HSB := Lib.hid (HBY.out.setCell (p := ⟨B, k, none⟩) (show w.heap.size ≤ B by rw [HBB.out]; exact Nat.le_refl _) (.int .i64 (nth ny k + 1)))
                  clear hx1 hxy hge hLk
                  go_wp2_with (fail)
                  exact ⟨⟨k + 1, _, true, by omega, by simp, rfl, HN.out, HSET.out, HSB.out⟩, by simp [intOf]; omega⟩
              · have exy : (x != nth ny k) = true := by rw [bne_iff_ne]; exact hxy
                have HR := Lib.hid (align_none (L := L) (cols := cols) (i := i + 1) (by omega) (by rw [HST.out]; exact rowA_none (k := k + 1) (by omega) (HSTP.out.trans (eltA_ne hx1 hxy))))
                clear hx1 hxy hLk hya
                go_wp2_with (fail)
                go_ret
                exact ⟨ret_b HR.out.symm, HBY.out⟩
          · obtain rfl : k = n' := by omega
            have HCE := Lib.hid (show colA L c nx c.length = some (ny, sm) by rw [hln]; exact HCA.out)
            cases sm
            · have HR := Lib.hid (align_none (L := L) (cols := cols) (i := i + 1) (by omega) (by rw [HST.out]; exact rowA_void HCL.out HCE.out))
              go_wp2_with (fail)
              go_ret
              exact ⟨ret_b HR.out.symm, HBY.out⟩
            · have HN := Lib.hid (HST.out.trans (rowA_some HCL.out HCE.out))
              go_wp2_with (fail)
              exact ⟨⟨i + 1, ny, by omega, by simp, HN.out, HNY.out, HAY.out, HBY.out⟩, by simp [intOf]; omega⟩
      · have en : ((n' : Int) != (n2 : Int)) = true := by rw [bne_iff_ne]; omega
        have HR := Lib.hid (align_none (L := L) (cols := cols) (i := i + 1) (by omega) (by rw [HST.out]; exact rowA_len (by rw [HL.out]; omega)))
        clear hne
        go_wp2_with (fail)
        go_ret
        exact ⟨ret_b HR.out.symm, HB.out⟩
    · obtain rfl : i = n3 := by omega
      have HE := Lib.hid (align_end (L := L) (cols := cols) (nx := nx) (by rw [hl3]; exact HCS.out))
      clear hb
      go_wp2_with (fail)
      obtain ⟨wo, rfl⟩ : ∃ wo : World, wo = wr := ⟨_, rfl⟩
      go_loopw [62] (fun kv wi => ∃ k : Nat, k ≤ n2 ∧ kv = .int .i64 k ∧ (∀ j, j < k → nth nx j = nth L j) ∧ Arr wi B 3 nx ∧ Below w.heap.size w wi) (fun kv _ => n2 - (intOf kv).toNat)
      case atStart => exact ⟨0, Nat.zero_le _, rfl, fun j hj => by omega, HAR.out, HB.out⟩
      case round =>
        obtain ⟨k, hk, rfl, hj, hay, hby⟩ := hrel
        have HJ := Lib.hid hj
        have HAY := Lib.hid hay
        have HBY := Lib.hid hby
        clear hj hay hby
        by_cases hkl : k < n2
        · obtain ⟨l, b5, o5, v5, hl5, hab5, hcv5, a5, n5, c5, rfl, ht5⟩ := H2.out.at hkl
          have hcv6 := cell_keep HBY.out hcv5
          have hLk : nth L k = (n5 : Int) := by rw [HLA.out k l hl5, ht5.len]
          have hs5 := ht5.small
          have hkL : k < L.length := by rw [HL.out]; omega
          have hcy := HAY.out.cell (k := k) (by rw [HNX.out.1]; exact hkL)
          rw [hab5]
          clear hl5 hab5 hcv5 ht5
          by_cases he : nth nx k = (n5 : Int)
          · have ee : (nth nx k != (n5 : Int)) = false := by rw [bne, Bool.not_eq_false', beq_iff_eq]; exact he
            have HEQ := Lib.hid (show nth nx k = nth L k by rw [hLk]; exact he)
            clear he hLk
            go_wp2_with (fail)
            go_quiet (fail)
            go_wp2_with (fail)
            exact ⟨⟨k + 1, by omega, by simp, fun j hj => by
              by_cases hjk : j = k
              · rw [hjk]; exact HEQ.out
              · exact HJ.out j (by omega), HAY.out.kept (bdrewN _ _), bstep HBY.out (bdrewN _ _)⟩, by simp [intOf]; omega⟩
          · have ee : (nth nx k != (n5 : Int)) = true := by rw [bne_iff_ne]; exact he
            have HR := Lib.hid (show alignB L cols = false by rw [HE.out]; exact decide_eq_false (ne_at (k := k) (by rw [hLk]; exact he)))
            clear he hLk
            go_wp2_with (fail)
            go_quiet (fail)
            go_wp2_with (fail)
            go_ret
            exact ⟨ret_b HR.out.symm, bstep HBY.out (bdrewN _ _)⟩
        · obtain rfl : k = n2 := by omega
          have HR := Lib.hid (show alignB L cols = true by rw [HE.out]; exact decide_eq_true (eq_upto HNX.out.1 (by rw [HL.out]; exact HJ.out)))
          go_wp2_with (fail)
          go_ret
          exact ⟨ret_b HR.out.symm, HBY.out⟩
end Go.Proofs.YtjmebijckcimoaaGreatDoor
