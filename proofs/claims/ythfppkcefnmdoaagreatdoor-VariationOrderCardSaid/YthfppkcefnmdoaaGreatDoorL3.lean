/-
  VariationReadings: the law.
-/
import Derived.Test.YthfppkcefnmdoaaGreatDoorLa
import Derived.Test.YthfppkcefnmdoaaGreatDoorGr
namespace Go.Proofs.YthfppkcefnmdoaaGreatDoor
open Go.RowKit Go.Ap Go.Shelf Go.Proofs

attribute [local go_sem] Oper.semAt_some bs_toList empty_toList bs_size bs_extract
/-- a place of a collation -/
theorem unit_at {x : Coll} {k : Nat} {u : Plc} (h : (unitsL x)[k]? = some u) : ∃ lo hi : Nat, lo < hi ∧ hi ≤ x.columns.length ∧ u = plcR x (lo, hi) := by
  unfold unitsL at h
  rw [List.getElem?_map] at h
  obtain ⟨⟨lo, hi⟩, hr, rfl⟩ := Option.map_eq_some_iff.1 h
  obtain ⟨_, h2, h3, _⟩ := runsF_mem (comB x) x.columns.length x.columns.length 0 (by omega) lo hi (List.mem_of_getElem? hr)
  exact ⟨lo, hi, h2, h3, rfl⟩
theorem units_len (x : Coll) : (unitsL x).length ≤ x.columns.length := by
  unfold unitsL
  rw [List.length_map]
  exact runsF_count _ _
theorem units_small {x : Coll} (h1 : x.sigla.length ≤ 32) (h2 : x.columns.length ≤ 1048576) : ∀ u ∈ unitsL x, RdS u.rds := fun u hu => by
  obtain ⟨k, hk⟩ := List.getElem?_of_mem hu
  obtain ⟨lo, hi, _, h4, rfl⟩ := unit_at hk
  exact rdsL_small h1 (by omega)
set_option maxRecDepth 100000 in
set_option maxHeartbeats 16000000 in
theorem law3 (x : Coll) (a1 : Option Addr) (n1 c1 : Nat) (a2 : Option Addr) (n2 c2 : Nat) (a3 : Option Addr) (n3 c3 : Nat) (w : World) (h : CollM w a1 a2 a3 n1 n2 n3 x) (hc1 : n1 ≤ c1) (hev : EV w) :
    Calls Tryz.prog 3 #[.agg #[.string (bs x.sec), .slice a1 n1 c1, .slice a2 n2 c2, .slice a3 n3 c3]] w fun e w' => e = .returned (.bool true) ∧ Below w.heap.size w w' := by
  obtain ⟨i0, hi0, hz0, hz1, hz2⟩ := info_parts infoStr
  obtain ⟨i9, hi9, hy0, hy1, hy2⟩ := info_parts infoInt
  have hl1 := h.sigla.len
  have hl2 := h.tokens.len
  have hl3 := h.columns.len
  have hs1 := h.sigla.small
  have hs3 := h.columns.small
  have HGR := Lib.hid (fun W (hb : Below w.heap.size w W) => greatR x a1 n1 c1 a2 n2 c2 a3 n3 c3 W (h.mono (Nat.le_refl _) hb))
  have HCK := Lib.hid (fun W (hb : Below w.heap.size w W) => collR x a1 n1 c1 a2 n2 c2 a3 n3 c3 W (h.mono (Nat.le_refl _) hb))
  have HAW := Lib.hid (fun W (hb : Below w.heap.size w W) => awakeP W (hev.mono (Nat.le_refl _) hb))
  have eg := enters_of Tryz.func19 (by kernel_rfl) rfl
  obtain ⟨W4, hW4⟩ : ∃ W4, w.alloc (.cells #[.string (bs x.sec), .slice a1 n1 c1, .slice a2 n2 c2, .slice a3 n3 c3] 26) = W4 := ⟨_, rfl⟩
  have HB4 := Lib.hid (show Below w.heap.size w W4 by rw [← hW4]; exact balloc _ _)
  have HBX := Lib.hid (show BoxC W4 w.heap.size x.sec a1 n1 c1 a2 n2 c2 a3 n3 c3 by rw [← hW4]; exact BoxC.new _ _ _ _ _ _ _ _ _ _ _)
  have HW4 := Lib.hid hW4
  clear hW4
  unfold collV at HGR HCK
  by_cases hok : collC x = 0
  · have hv := val_of hok
    have hp1 := hv.pos
    have hle := hv.le
    have HUN := Lib.hid (fun W (hb : Below w.heap.size w W) (h24 : x.columns.length ≤ 1048576) => callsIn_wide.1 (unitsP x a1 n1 c1 a2 n2 c2 a3 n3 c3 W (h.mono (Nat.le_refl _) hb) hc1 (hev.mono (Nat.le_refl _) hb) h24 hok))
    have HLI := Lib.hid (fun s (hs : s < x.sigla.length) i (hi : i < x.columns.length) W (hb : Below w.heap.size w W) => cell_lies (h.mono (Nat.le_refl _) hb) hv s hs i hi)
    have hnt := hv.toks
    rw [hok] at HCK
    unfold collV at HUN
    clear h hv hok hev
    go_enter Tryz.func3, Tryz.ntmps3
    go_wp2_with (fail)
    rw [HW4.out]
    refine (HGR.out _ HB4.out).mono ?_
    rintro e wa ⟨⟨b, rfl, hb24⟩, hba⟩
    have HBA := Lib.hid (bstep HB4.out hba)
    have HBXa := Lib.hid (HBX.out.below hba)
    clear hba
    cases b
    · have h24 := hb24 rfl
      obtain ⟨k0, k1, k2, k3⟩ := HBXa.out
      clear hb24
      go_wp2_with (fail)
      refine (HCK.out _ HBA.out).mono ?_
      rintro e wb ⟨rfl, hbb⟩
      have HBB := Lib.hid (bstep HBA.out hbb)
      have HBXb := Lib.hid (HBXa.out.below hbb)
      clear hbb k0 k1 k2 k3
      obtain ⟨k0, k1, k2, k3⟩ := HBXb.out
      go_wp2_with (fail)
      refine (HUN.out _ HBB.out (by omega)).mono ?_
      rintro e w5 ⟨v, rfl, hov, hb5⟩
      have hnu := units_len x
      obtain ⟨a9, k9, rfl, hP9⟩ := hov.plcs hb5 (by omega) (units_small hle (by omega))
      obtain ⟨us, hus⟩ : ∃ us, unitsL x = us := ⟨_, rfl⟩
      have HUX := Lib.hid (show ∀ k u, us[k]? = some u → ∃ lo hi : Nat, lo < hi ∧ hi ≤ n3 ∧ u = plcR x (lo, hi) from fun k u hk => by rw [← hus] at hk; rw [← hl3]; exact unit_at hk)
      rw [hus] at hP9 hnu ⊢
      obtain ⟨n9, hn9⟩ : ∃ n9, us.length = n9 := ⟨_, rfl⟩
      rw [hn9] at hP9 hnu ⊢
      have HP9 := Lib.hid hP9
      have HB5 := Lib.hid (bstep HBB.out hb5)
      have HBX5 := Lib.hid (HBXb.out.below hb5)
      have HN1 := Lib.hid hl1
      clear hov hb5 hus hn9 hP9 k0 k1 k2 k3 HUN HCK HGR HBX HBXa HBXb HW4
      have hmk : ∀ w, (Instr.makeSlice 37 (.int .i64 n1) (.int .i64 n1)).run Tryz.prog w = .ok (.slice (some ⟨w.heap.size, 0, none⟩) n1 n1) (w.alloc (.cells (Array.replicate n1 (.int .i64 0)) 3)) := fun w => by
        have h := run_make_row (P := Tryz.prog) 37 3 i9 (.int .i64 0) Tryz.underlying37 hi9 hy0 hy1 rfl .i64 .i64 n1 (by rw [hy2]; omega) (by omega) w
        rw [made_ints, show ((List.replicate n1 (0 : Int)).map (Value.int .i64)).toArray = Array.replicate n1 (.int .i64 0) by simp] at h
        exact h
      have HMK := Lib.hid hmk
      clear hmk
      go_wp2_with (fail)
      go_loopw [36] (fun kv wr => ∃ k : Nat, k ≤ n9 ∧ kv = .int .i64 k ∧ Below w5.heap.size w5 wr) (fun kv _ => n9 - (intOf kv).toNat)
      case atStart => exact ⟨0, Nat.zero_le _, rfl, Below.refl _ _⟩
      case round =>
        obtain ⟨wk, rfl⟩ : ∃ wk : World, wk = wr := ⟨_, rfl⟩
        obtain ⟨k, hk, rfl, hbk⟩ := hrel
        have HBK := Lib.hid hbk
        by_cases hkn : k < n9
        · obtain ⟨u, b9, o9, hu, rfl, ⟨ar, nr, kr, g0, g1, g2, hRd, _, _, hcap⟩⟩ := (Plcs.mono HP9.out (Nat.le_refl _) hbk).at hkn
          obtain ⟨lo, hi, hlh, hh3, rfl⟩ := HUX.out k u hu
          have hmk := HMK.out
          simp only [plcR] at g0 g1 hRd
          obtain ⟨k0, k1, k2, k3⟩ := HBX5.out.below hbk
          have d0 : decide ((lo : Int) < 0) = false := by simp
          have d1 : decide ((n3 : Int) < (hi : Int)) = false := by simp; omega
          have d1' : decide (n3 < hi) = false := by simp; omega
          have HRD := Lib.hid hRd
          clear hu hbk hRd
          have z0 := cell_keep (balloc wk (.cells #[.int .i64 (lo : Int), .int .i64 (hi : Int), .slice ar nr kr] 36)) k1
          have z1 := cell_keep (balloc wk (.cells #[.int .i64 (lo : Int), .int .i64 (hi : Int), .slice ar nr kr] 36)) k3
          go_wp2_with (fail)
          obtain ⟨WA, hWA⟩ : ∃ WA, wk.alloc (.cells #[.int .i64 (lo : Int), .int .i64 (hi : Int), .slice ar nr kr] 36) = WA := ⟨_, rfl⟩
          obtain ⟨B, hB⟩ : ∃ B, wk.heap.size + 1 = B := ⟨_, rfl⟩
          have hBA : WA.heap.size = B := by rw [← hWA, ← hB]; simp
          have bA : Below wk.heap.size wk WA := by rw [← hWA]; exact balloc _ _
          have HAR0 := Lib.hid (show Arr (WA.alloc (.cells (Array.replicate n1 (.int .i64 0)) 3)) B 3 (seenL n1 (doneL (rdsL x lo hi) 0)) by
            rw [show seenL n1 (doneL (rdsL x lo hi) 0) = List.replicate n1 0 by simp [doneL, seenL_nil], Arr, show ((List.replicate n1 (0 : Int)).map (Value.int .i64)).toArray = Array.replicate n1 (.int .i64 0) by simp]
            exact heap_fresh hBA.symm)
          have HBWA := Lib.hid (show Below w.heap.size w WA from bstep (bstep HB5.out HBK.out) bA)
          have HB5A := Lib.hid (show Below w5.heap.size w5 WA from bstep HBK.out bA)
          have HBXA := Lib.hid (show BoxC WA w.heap.size x.sec a1 n1 c1 a2 n2 c2 a3 n3 c3 from (HBX5.out.below HBK.out).below bA)
          have HRA := Lib.hid (show Rdgs WA ar nr (rdsL x lo hi) from Rdgs.mono HRD.out (Nat.le_refl _) bA)
          have H60 := Lib.hid (show WA.cell? ⟨wk.heap.size, 0, none⟩ = some (.int .i64 (lo : Int)) by rw [← hWA]; exact cell_fresh rfl rfl)
          have H61 := Lib.hid (show WA.cell? ⟨wk.heap.size, 1, none⟩ = some (.int .i64 (hi : Int)) by rw [← hWA]; exact cell_fresh rfl rfl)
          have H62 := Lib.hid (show WA.cell? ⟨wk.heap.size, 2, none⟩ = some (.slice ar nr kr) by rw [← hWA]; exact cell_fresh rfl rfl)
          have HNR := Lib.hid (show (rdsL x lo hi).length = nr from HRD.out.len)
          have hsr := HRD.out.small
          have HAT := Lib.hid (show RdsAt (fun k => readL x k lo hi) n1 (rdsL x lo hi) by rw [← HN1.out]; exact rdsN_at x lo hi x.sigla.length)
          obtain ⟨b6, hb6⟩ : ∃ b6, wk.heap.size = b6 := ⟨_, rfl⟩
          have h6B : b6 < B := by omega
          rw [hWA, hB, hb6]
          rw [hb6] at H60 H61 H62
          have HBA := Lib.hid hBA
          have HBK2 := Lib.hid (show Below B WA (WA.alloc (.cells (Array.replicate n1 (.int .i64 0)) 3)) by rw [← hBA]; exact balloc _ _)
          clear hWA hB hBA bA hb6 hmk z0 z1 k0 k1 k2 k3 g0 g1 g2 d0 d1 HRD
          go_loopw [58] (fun iv wr => ∃ i : Nat, i ≤ nr ∧ iv = .int .i64 i ∧ Below B WA wr ∧ Arr wr B 3 (seenL n1 (doneL (rdsL x lo hi) i))) (fun iv _ => nr - (intOf iv).toNat)
          case atStart => exact ⟨0, Nat.zero_le _, rfl, HBK2.out, HAR0.out⟩
          case round =>
            obtain ⟨wi, rfl⟩ : ∃ wi : World, wi = wr := ⟨_, rfl⟩
            obtain ⟨i, hi', rfl, hbi, har⟩ := hrel
            have HBI := Lib.hid hbi
            have HAR := Lib.hid har
            have hbi' : Below WA.heap.size WA wi := by rw [HBA.out]; exact hbi
            have HBI' := Lib.hid hbi'
            by_cases hin : i < nr
            · obtain ⟨r, b, off, hr, rfl, ⟨a5, n5, k5, a6, n6, k6, q0, s5, q1, s6⟩⟩ := HRA.out.at hin
              have HR := Lib.hid hr
              have HS5 := Lib.hid s5
              have HS6 := Lib.hid s6
              have hs5 := s5.small
              have hs6 := s6.small
              have HL6 := Lib.hid s6.len
              have HSRC := Lib.hid (HAT.out.src r (List.mem_of_getElem? hr))
              have hn6 : 0 < n6 := by
                obtain ⟨⟨z, hz⟩, _, _⟩ := HSRC.out
                rw [← s6.len]
                exact Nat.lt_of_le_of_lt (Nat.zero_le _) (List.getElem?_eq_some_iff.1 hz).1
              have e0 : ((n6 : Int) == 0) = false := by rw [beq_eq_false_iff_ne]; omega
              have y0 := cell_keep hbi' q0
              have y1 := cell_keep hbi' q1
              have HSO := Lib.hid (fun W (hb : Below WA.heap.size WA W) => sortedI a6 n6 k6 r.2 W (HS6.out.mono (Nat.le_refl _) hb) HSRC.out.2.1)
              clear hbi har hbi' hr q0 q1 s5 s6
              go_wp2_with (fail)
              have hb9 := balloc wi (.cells #[.slice a5 n5 k5, .slice a6 n6 k6] 39)
              refine (HSO.out _ (bstep HBI'.out hb9)).mono ?_
              rintro e w9 ⟨rfl, q, rfl⟩
              have HB9 := Lib.hid (bstep hb9 (bdrewN _ q))
              have H90 := Lib.hid (show ((wi.alloc (.cells #[.slice a5 n5 k5, .slice a6 n6 k6] 39)).drewN q).cell? ⟨wi.heap.size, 0, none⟩ = some (.slice a5 n5 k5) from cell_fresh rfl rfl)
              have H91 := Lib.hid (show ((wi.alloc (.cells #[.slice a5 n5 k5, .slice a6 n6 k6] 39)).drewN q).cell? ⟨wi.heap.size, 1, none⟩ = some (.slice a6 n6 k6) from cell_fresh rfl rfl)
              have hszi : B ≤ wi.heap.size := by have := HBI'.out.size; rw [HBA.out] at this; exact this
              have hBi : B < wi.heap.size := HAR.out.lt
              obtain ⟨w9, hw9⟩ : ∃ w9, (wi.alloc (.cells #[.slice a5 n5 k5, .slice a6 n6 k6] 39)).drewN q = w9 := ⟨_, rfl⟩
              rw [hw9] at HB9 H90 H91 ⊢
              obtain ⟨x9, hx9⟩ : ∃ x9, wi.heap.size = x9 := ⟨_, rfl⟩
              rw [hx9] at H90 H91 hBi ⊢
              have HX9 := Lib.hid hx9
              clear hb9 y0 y1 hw9 hx9 HSO
              have c90 := H91.out
              go_wp2_with (fail)
              clear c90
              -- the sources of the reading
              go_loopw [76] (fun jv wr => ∃ j : Nat, j ≤ n6 ∧ jv = .int .i64 j ∧ Below B WA wr ∧ Arr wr B 3 (seenL n1 (doneL (rdsL x lo hi) i ++ r.2.take j)) ∧ wr.cell? ⟨x9, 0, none⟩ = some (.slice a5 n5 k5) ∧ wr.cell? ⟨x9, 1, none⟩ = some (.slice a6 n6 k6)) (fun jv _ => n6 - (intOf jv).toNat)
              case atStart => exact ⟨0, Nat.zero_le _, rfl, HBI.out.trans (HB9.out.mono hszi), by rw [List.take_zero, List.append_nil]; exact HAR.out.kept HB9.out, H90.out, H91.out⟩
              case round =>
                obtain ⟨wj, rfl⟩ : ∃ wj : World, wj = wr := ⟨_, rfl⟩
                obtain ⟨j, hj, rfl, hbj, harj, hc0, hc1⟩ := hrel
                have HBJ := Lib.hid hbj
                have HARJ := Lib.hid harj
                have HC0 := Lib.hid hc0
                have HC1 := Lib.hid hc1
                have hbj' : Below WA.heap.size WA wj := by rw [HBA.out]; exact hbj
                have HBJ' := Lib.hid hbj'
                clear hbj harj hc0 hc1
                by_cases hjn : j < n6
                · obtain ⟨zz, bs6, os6, vz, hz, rfl, hcz, hvz, _⟩ := Sl.at HS6.out hjn
                  subst hvz
                  obtain ⟨z, rfl, hzn, hzw⟩ := HSRC.out.2.2 zz (List.mem_of_getElem? hz)
                  have hzn1 : z < n1 := by omega
                  have hcz' := cell_keep hbj' hcz
                  have HFR := Lib.hid (HAT.out.fresh HR.out hz)
                  have HZ := Lib.hid hz
                  have HZW := Lib.hid hzw
                  have hsl : z < (seenL n1 (doneL (rdsL x lo hi) i ++ r.2.take j)).length := by rw [seenL_len]; exact hzn1
                  have hcs := HARJ.out.cell hsl
                  rw [seenL_nth hzn1, if_neg HFR.out] at hcs
                  have hfs := HARJ.out.free z
                  have HAS := Lib.hid (show Arr (wj.setCell ⟨B, z, none⟩ (.int .i64 1)) B 3 (seenL n1 (doneL (rdsL x lo hi) i ++ r.2.take (j + 1))) by
                    have := HARJ.out.set z 1
                    rw [seenL_push, List.append_assoc] at this
                    rw [List.take_add_one, HZ.out]
                    exact this)
                  have HBS := Lib.hid (show Below B WA (wj.setCell ⟨B, z, none⟩ (.int .i64 1)) from HBJ.out.setCell (by simp) _)
                  have gs := grownBy_setCell' wj B (.int .i64 1)
                  have gs2 : wj.grownBy (wj.setCell ⟨B, z, none⟩ (.int .i64 1)) (some B) := ⟨gs.os, gs.tape, gs.output, by simp [World.setCell], fun k hk hne => by simp [World.setCell, Array.getElem?_modify, show ¬ B = k from fun e => hne (by rw [e])]⟩
                  have HD0 := Lib.hid (gs2.cell HC0.out (by simp; omega))
                  have HD1 := Lib.hid (gs2.cell HC1.out (by simp; omega))
                  have d2 : decide ((z : Int) < 0) = false := by simp
                  have d3 : decide ((n1 : Int) ≤ (z : Int)) = false := by simp; omega
                  have d3' : decide (n1 ≤ z) = false := by simp; omega
                  have d4 : (z : Int) < (n1 : Int) := by omega
                  have c60 := (gs2.cell (cell_keep hbj' H60.out) (by simp; omega))
                  clear hbj' hcz hz hzw hzn gs gs2 hsl HFR
                  go_wp2_with (fail)
                  obtain ⟨Ws, hWs⟩ : ∃ Ws, wj.setCell ⟨B, z, none⟩ (.int .i64 1) = Ws := ⟨_, rfl⟩
                  rw [hWs] at HAS HBS HD0 HD1 c60 ⊢
                  have hws' : Below WA.heap.size WA Ws := by rw [HBA.out]; exact HBS.out
                  have HBS' := Lib.hid hws'
                  have HBW := Lib.hid (bstep HBWA.out hws')
                  have HE1 := Lib.hid (cell_keep hws' H61.out)
                  have HXS := Lib.hid (HBXA.out.below hws')
                  clear hWs hcs hfs c60 hcz' hws' d2 d3
                  go_loopw [12, 13] (fun ov kv wv => ∃ q : Nat, lo ≤ q ∧ q ≤ hi ∧ kv = .int .i64 q ∧ OwnS wv Ws.heap.size ov (readL x z lo q) ∧ Below Ws.heap.size Ws wv) (fun _ kv _ => hi - (intOf kv).toNat)
                  case atStart => exact ⟨lo, Nat.le_refl _, by omega, rfl, by rw [readL_zero]; exact OwnS.nil _ _, Below.refl _ _⟩
                  case round =>
                    obtain ⟨wq, rfl⟩ : ∃ wq : World, wq = wr := ⟨_, rfl⟩
                    obtain ⟨q, hlq, hqh, rfl, ho, hb⟩ := hrel
                    have HO := Lib.hid ho
                    have HB := Lib.hid hb
                    have hszq := hb.size
                    have f1 := cell_keep hb HE1.out
                    clear ho
                    by_cases hqlt : q < hi
                    · obtain ⟨q0, q1, q2, q3⟩ := HXS.out.below hb
                      have HS := Lib.hid (readL_succ (x := x) (s := z) hlq)
                      have hrl := readL_len x z lo q
                      obtain ⟨bb, oo, bc, oc, nc, cc, y, rfl, g1, g2, g3, g4, hor⟩ := HLI.out z (by omega) q (by omega) wq (bstep HBW.out hb)
                      have i1 : (q : Int) < (n3 : Int) := by omega
                      have i2 : (z : Int) < (nc : Int) := by omega
                      have i3 : (z : Int) < (n2 : Int) := by omega
                      clear hb q0 q1
                      rcases hor with ⟨rfl, hn⟩ | ⟨m, b7, o7, n7, c7, b8, o8, uu, rfl, rfl, p1, p2, p3, p4, hn⟩
                      · rw [hn] at HS
                        clear hn
                        go_wp2_with (fail)
                        go_roundw
                        case rel => exact ⟨q + 1, by omega, by omega, by simp, by rw [HS.out]; simpa using HO.out, HB.out⟩
                        case measure => simp [intOf]; omega
                      · rw [hn] at HS
                        have i4 : (m : Int) < (n7 : Int) := by omega
                        have i5 : (0 : Int) ≤ (m : Int) := by omega
                        obtain ⟨ql, hql⟩ : ∃ ql, (readL x z lo q).length = ql := ⟨_, rfl⟩
                        rw [hql] at hrl
                        have HM := Lib.hid hql
                        have HOW := Lib.hid (show wq.ownsRow Ws.heap.size 9 1 _ ql ((readL x z lo q).map sv) by have := HO.out; unfold OwnS at this; rwa [hql] at this)
                        clear hn hql
                        go_wp2_with (at_builtin; refine wpList_append_own _ rfl _ _ 22 rfl Ws.heap.size 9 i0 (.string { data := #[] }) 1 16 Tryz.underlying22 hi0 hz0 hz1 hz2 rfl (by decide) _ _ _ rfl (HOW.out.alloc _) ⟨wq.heap.size, 0, none⟩ 1 1 [.string (bs uu)] rfl rfl (cell_one_new _ _ _) (by simp [Value.oneCell']) (by unfold maxLen; omega) (by omega) (by simp; omega) ?_; intro v1 w4 hown1 hgrow1 _; have HO3 := Lib.hid hown1; have HG := Lib.hid hgrow1; clear hown1 hgrow1)
                        obtain ⟨j1, j2⟩ := OwnS.pushed (x := uu) HO.out hszq (by rw [HM.out]; exact HO3.out) HG.out
                        go_roundw
                        case rel => exact ⟨q + 1, by omega, by omega, by simp, by rw [HS.out]; exact j1, HB.out.trans j2⟩
                        case measure => simp [intOf]; omega
                    · obtain rfl : q = hi := by omega
                      have hrl := readL_len x z lo q
                      obtain ⟨aw, kw, rfl, hSw⟩ := HO.out.strs (by omega)
                      rw [HZW.out] at hSw ⊢
                      have HSW := Lib.hid hSw
                      obtain ⟨mw, hmw⟩ : ∃ mw, r.1.length = mw := ⟨_, rfl⟩
                      rw [hmw] at HSW ⊢
                      have hbA : Below WA.heap.size WA wq := bstep HBS'.out hb
                      have HBQ := Lib.hid hbA
                      have f0 := cell_keep hbA H60.out
                      have f2 := cell_keep hbA H62.out
                      have HWHO := Lib.hid (show whoE (rdsL x lo q) (z : Int) = (((i : Nat) : Int), 0) from HAT.out.who HR.out (List.mem_of_getElem? HZ.out))
                      have HRU := Lib.hid (readU (plcR x (lo, q)) (some ⟨b, off, none⟩) nr kr (z : Int) wq (Rdgs.mono HRA.out (Nat.le_refl _) hbA))
                      simp only [plcR] at HRU
                      rw [HWHO.out] at HRU
                      simp only at HRU
                      have H9A := Lib.hid (cell_keep hb HD0.out)
                      have H9B := Lib.hid (cell_keep hb HD1.out)
                      have HARQ := Lib.hid (HAS.out.kept hb)
                      clear hb hbA hSw hmw hrl
                      go_wp2_with (fail)
                      refine HRU.out.mono ?_
                      rintro e wu ⟨rfl, hbu⟩
                      have HBU := Lib.hid hbu
                      have u0 := cell_keep hbu H9A.out
                      have u1 := cell_keep hbu H9B.out
                      have HEQ := Lib.hid (eqStrs aw a5 kw k5 mw n5 r.1 r.1 wu (HSW.out.mono (Nat.le_refl _) hbu) (HS5.out.mono (Nat.le_refl _) (bstep HBQ.out hbu)))
                      simp only [decide_true] at HEQ
                      clear hbu f0 f1 f2
                      go_wp2_with (fail)
                      refine HEQ.out.mono ?_
                      rintro e wy ⟨rfl, qy, rfl⟩
                      go_wp2_with (fail)
                      go_roundw
                      case rel => exact ⟨j + 1, by omega, by simp, by rw [← HBA.out]; exact bstep (bstep HBQ.out HBU.out) (bdrewN _ _), (HARQ.out.kept HBU.out).kept (bdrewN _ _), u0, u1⟩
                      case measure => simp [intOf]; omega
                · obtain rfl : j = n6 := by omega
                  have hcx : i ≤ kr := by omega
                  have c91 := HC1.out
                  have c90 := HC0.out
                  have f2 := cell_keep hbj' H62.out
                  have HDN := Lib.hid (show Arr wj B 3 (seenL n1 (doneL (rdsL x lo hi) (i + 1))) by
                    have := HARJ.out
                    rw [List.take_of_length_le (by rw [HL6.out]; exact Nat.le_refl _)] at this
                    rw [doneL_succ HR.out]; exact this)
                  obtain ⟨zr, hzr⟩ := HSRC.out.1
                  have HZR := Lib.hid hzr
                  obtain ⟨b8, o8, v8, ha8, hc8, hv8, _⟩ := HS6.out.cells 0 zr hzr
                  subst ha8 hv8
                  have HC8 := Lib.hid hc8
                  clear hbj' hzr hc8
                  go_wp2_with (fail)
                  go_loopw [150] (fun mv wr => ∃ m : Nat, m ≤ i ∧ mv = .int .i64 m ∧ Below wj.heap.size wj wr) (fun mv _ => i - (intOf mv).toNat)
                  case atStart => exact ⟨0, Nat.zero_le _, rfl, Below.refl _ _⟩
                  case round =>
                    obtain ⟨wm, rfl⟩ : ∃ wm : World, wm = wr := ⟨_, rfl⟩
                    obtain ⟨m, hm, rfl, hbm⟩ := hrel
                    have HBM := Lib.hid hbm
                    by_cases hmi : m < i
                    · obtain ⟨qr, bq', oq', hqr, hbq, ⟨a7, n7, k7, a8, n8, k8, g0, s7, g1, s8⟩⟩ := HRA.out.at (show m < nr by omega)
                      injection hbq with hbq
                      injection hbq with hbq1 hbq2 _
                      subst hbq1 hbq2
                      have hbA : Below WA.heap.size WA wm := bstep HBJ'.out hbm
                      have HBAM := Lib.hid hbA
                      have p0 := cell_keep hbA g0
                      have p1 := cell_keep hbA g1
                      obtain ⟨zq, hzq⟩ := (HAT.out.src qr (List.mem_of_getElem? hqr)).1
                      obtain ⟨b7, o7, v7, ha7, hc7, hv7, _⟩ := s8.cells 0 zq hzq
                      subst ha7 hv7
                      have HC7 := Lib.hid hc7
                      have HLT := Lib.hid (show zq < zr from by
                        obtain ⟨h5, h6⟩ := List.getElem?_eq_some_iff.1 hqr
                        obtain ⟨h7, h8⟩ := List.getElem?_eq_some_iff.1 HR.out
                        refine (List.pairwise_iff_getElem.1 HAT.out.asc) m i h5 h7 hmi zq zr (by rw [h6]; exact hzq) (by rw [h8]; exact HZR.out))
                      have hne : qr.1 ≠ r.1 := by
                        obtain ⟨h5, h6⟩ := List.getElem?_eq_some_iff.1 hqr
                        obtain ⟨h7, h8⟩ := List.getElem?_eq_some_iff.1 HR.out
                        have := (List.pairwise_iff_getElem.1 HAT.out.neq) m i h5 h7 hmi
                        rwa [h6, h8] at this
                      have hn8 : 0 < n8 := by
                        rw [← s8.len]
                        exact Nat.lt_of_le_of_lt (Nat.zero_le _) (List.getElem?_eq_some_iff.1 hzq).1
                      obtain ⟨WM, hWM⟩ : ∃ WM, wm.alloc (.cells #[.slice a7 n7 k7, .slice (some ⟨b7, o7, none⟩) n8 k8] 39) = WM := ⟨_, rfl⟩
                      have hbM : Below wm.heap.size wm WM := by rw [← hWM]; exact balloc _ _
                      have HBMM := Lib.hid (bstep hbm hbM)
                      have HEQ := Lib.hid (fun t => eqStrs a7 a5 k7 k5 n7 n5 qr.1 r.1 (WM.drewN t) (s7.mono (Nat.le_refl _) (bstep (bstep hbA hbM) (bdrewN _ _))) (HS5.out.mono (Nat.le_refl _) (bstep (bstep hbA hbM) (bdrewN _ _))))
                      simp only [decide_eq_false hne] at HEQ
                      have r0 : WM.cell? ⟨wm.heap.size, 0, none⟩ = some (.slice a7 n7 k7) := by rw [← hWM]; exact cell_fresh rfl rfl
                      have r1 : WM.cell? ⟨wm.heap.size, 1, none⟩ = some (.slice (some ⟨b7, o7, none⟩) n8 k8) := by rw [← hWM]; exact cell_fresh rfl rfl
                      have r2 := cell_keep hbM (cell_keep hbm c90)
                      have r3 := cell_keep hbM (cell_keep hbm c91)
                      have r4 : WM.cell? ⟨b7, o7, none⟩ = some (.int .i64 zq) := by have := cell_keep (bstep hbA hbM) HC7.out; simpa using this
                      have r5 : WM.cell? ⟨b8, o8, none⟩ = some (.int .i64 zr) := by have := cell_keep (bstep hbA hbM) HC8.out; simpa using this
                      have j8 : (0 : Int) < (n8 : Int) := by omega
                      have j6 : (0 : Int) < (j : Int) := by omega
                      have hgt : decide (zr < zq) = false := by have := HLT.out; simp; omega
                      have im : (m : Int) < (i : Int) := by omega
                      have HWM := Lib.hid hWM
                      clear hbA hbm hbM hzq hqr g0 g1 s7 s8 hc7 hne hWM c90 c91
                      go_wp2_with (fail)
                      rw [HWM.out]
                      clear p0 p1
                      go_quiet ((go_at_call 17; exact quietC (HEQ.out _)))
                      go_wp2_with (fail)
                      go_roundw
                      case rel => exact ⟨m + 1, by omega, by simp, bstep HBMM.out (bdrewN _ _)⟩
                      case measure => simp [intOf]; omega
                    · obtain rfl : m = i := by omega
                      clear hbm c90 c91
                      go_wp2_with (fail)
                      go_roundw
                      case rel => exact ⟨m + 1, by omega, by simp, by rw [← HBA.out]; exact bstep HBJ'.out HBM.out, HDN.out.kept HBM.out⟩
                      case measure => simp [intOf]; omega
            · obtain rfl : i = nr := by omega
              have HFU := Lib.hid (show Arr wi B 3 (List.replicate n1 1) by have := HAR.out; rwa [← HNR.out, HAT.out.done] at this)
              have HAL := Lib.hid (allOne B n1 3 n1 wi HFU.out hs1)
              clear hbi har hbi'
              go_wp2_with (fail)
              refine HAL.out.mono ?_
              rintro e wz ⟨rfl, q, rfl⟩
              go_wp2_with (fail)
              go_roundw
              case rel => exact ⟨k + 1, by omega, by simp, bstep (bstep HB5A.out HBI'.out) (bdrewN _ _)⟩
              case measure => simp [intOf]; omega
        · obtain rfl : k = n9 := by omega
          clear hbk
          go_wp2_with (fail)
          refine (HAW.out _ (bstep HB5.out HBK.out)).mono ?_
          rintro e wz ⟨rfl, hbz⟩
          go_wp2_with (fail)
          go_ret
          exact ⟨rfl, bstep (bstep HB5.out HBK.out) hbz⟩
    · clear hb24 HUN HLI
      go_wp2_with (fail)
      refine (HAW.out _ HBA.out).mono ?_
      rintro e wb ⟨rfl, hbb⟩
      go_wp2_with (fail)
      go_ret
      exact ⟨rfl, bstep HBA.out hbb⟩
  · have dn : (collC x != 0) = true := by simpa using hok
    obtain ⟨cc, hcc⟩ : ∃ cc, collC x = cc := ⟨_, rfl⟩
    rw [hcc] at HCK dn
    clear h hok hev hcc
    go_enter Tryz.func3, Tryz.ntmps3
    go_wp2_with (fail)
    rw [HW4.out]
    refine (HGR.out _ HB4.out).mono ?_
    rintro e wa ⟨⟨b, rfl, hb24⟩, hba⟩
    have HBA := Lib.hid (bstep HB4.out hba)
    have HBXa := Lib.hid (HBX.out.below hba)
    clear hba hb24
    cases b
    · obtain ⟨k0, k1, k2, k3⟩ := HBXa.out
      go_wp2_with (fail)
      refine (HCK.out _ HBA.out).mono ?_
      rintro e wb ⟨rfl, hbb⟩
      have HBB := Lib.hid (bstep HBA.out hbb)
      clear hbb k0 k1 k2 k3
      go_wp2_with (fail)
      refine (HAW.out _ HBB.out).mono ?_
      rintro e wc ⟨rfl, hbc⟩
      go_wp2_with (fail)
      go_ret
      exact ⟨rfl, bstep HBB.out hbc⟩
    · go_wp2_with (fail)
      refine (HAW.out _ HBA.out).mono ?_
      rintro e wb ⟨rfl, hbb⟩
      go_wp2_with (fail)
      go_ret
      exact ⟨rfl, bstep HBA.out hbb⟩
end Go.Proofs.YthfppkcefnmdoaaGreatDoor
