/-
  Join: the reference's way.
-/
import Derived.Test.YthfppkcefnmdoaaGreatDoorJn
import Derived.Test.YthfppkcefnmdoaaGreatDoorCr
namespace Go.Ap
open Go Go.RowKit
theorem OwnPl.keepLo {w0 w : World} {us : List Plc} {k g cap : Nat} {u : Plc} (h : OwnPl w0 w (.slice (some ⟨g, 0, none⟩) us.length cap) us) (hk : us[k]? = some u) :
    OwnPl w0 (w.setCell ⟨g, k * 3, none⟩ (.int .i64 u.lo)) (.slice (some ⟨g, 0, none⟩) us.length cap) us ∧ Below w0.heap.size w (w.setCell ⟨g, k * 3, none⟩ (.int .i64 u.lo)) := by
  obtain ⟨vs, h1, h2⟩ := h
  obtain ⟨z, hp, a1, a2, hz⟩ := h2 k u hk
  obtain ⟨hR, hG⟩ := h1.stored (k * 3) (.int .i64 u.lo)
  obtain ⟨f1, _, _⟩ := flat3_at hp
  obtain ⟨hl, he⟩ := List.getElem?_eq_some_iff.1 f1
  rw [show (flat3 vs).set (k * 3) (.int .i64 u.lo) = flat3 vs by rw [← he]; exact List.set_getElem_self _] at hR
  exact ⟨⟨vs, hR, fun j q hj => by obtain ⟨q', hq', b1, b2, qo⟩ := h2 j q hj; exact ⟨q', hq', b1, b2, qo.kept h1 hG⟩⟩, (Below.refl _ w).setCell (h1.lt g rfl).1 _⟩
/-- a place is set anew: its begin stays -/
theorem OwnPl.setAll {w0 w : World} {us : List Plc} {k g cap : Nat} {u : Plc} {y : Int} {z : Value} {rds : List Rdg} (h : OwnPl w0 w (.slice (some ⟨g, 0, none⟩) us.length cap) us) (hk : us[k]? = some u) (hy : I64 y) (hz : RdV w0 w z rds) :
    OwnPl w0 (((w.setCell ⟨g, k * 3, none⟩ (.int .i64 u.lo)).setCell ⟨g, k * 3 + 1, none⟩ (.int .i64 y)).setCell ⟨g, k * 3 + 2, none⟩ z) (.slice (some ⟨g, 0, none⟩) us.length cap) (us.set k ⟨u.lo, y, rds⟩) ∧
      Below w0.heap.size w (((w.setCell ⟨g, k * 3, none⟩ (.int .i64 u.lo)).setCell ⟨g, k * 3 + 1, none⟩ (.int .i64 y)).setCell ⟨g, k * 3 + 2, none⟩ z) := by
  obtain ⟨vs, hrow⟩ := h.row
  obtain ⟨h1, b1⟩ := h.keepLo hk
  have z1 := hz.kept hrow (hrow.stored (k * 3) (.int .i64 u.lo)).2
  obtain ⟨vs1, hrow1⟩ := h1.row
  obtain ⟨h2, b2⟩ := h1.setHi hk hy
  have z2 := z1.kept hrow1 (hrow1.stored (k * 3 + 1) (.int .i64 y)).2
  have hkl : k < us.length := (List.getElem?_eq_some_iff.1 hk).1
  have e : us.length = (us.set k ⟨u.lo, y, u.rds⟩).length := by simp
  rw [e] at h2
  obtain ⟨h3, b3⟩ := h2.setRds (k := k) (u := ⟨u.lo, y, u.rds⟩) (by rw [List.getElem?_set, if_pos rfl, if_pos hkl]) z2
  rw [← e, List.set_set] at h3
  exact ⟨h3, (b1.trans b2).trans b3⟩
end Go.Ap
namespace Go.Proofs.YthfppkcefnmdoaaGreatDoor
open Go.RowKit Go.Ap Go.Shelf Go.Proofs

attribute [local go_sem] Oper.semAt_some bs_toList empty_toList bs_size bs_extract
set_option maxRecDepth 100000 in
set_option maxHeartbeats 8000000 in
theorem joinR (x : Coll) (a1 : Option Addr) (n1 c1 : Nat) (a2 : Option Addr) (n2 c2 : Nat) (a3 : Option Addr) (n3 c3 : Nat) (w : World) (h : CollM w a1 a2 a3 n1 n2 n3 x) (h32 : x.columns.length ≤ 1048576)
    (a : Option Addr) (n c : Nat) (us : List Plc) (hu : Plcs w a n us) (hn : n ≤ 1048576) (d : Int) :
    Calls Tryz.prog 32 #[collV x.sec a1 n1 c1 a2 n2 c2 a3 n3 c3, .slice a n c, .int .i64 d] w (GivesU w (joinE x us d)) := by
  obtain ⟨i0, hi0, hz0, hz1, hz2⟩ := info_parts infoPl
  have hl3 := h.columns.len
  have hlu := hu.len
  have HCK := Lib.hid (fun W (hb : Below w.heap.size w W) => checkR x a1 n1 c1 a2 n2 c2 a3 n3 c3 W (h.mono (Nat.le_refl _) hb) h32 a n c us (Plcs.mono hu (Nat.le_refl _) hb))
  have HB4 := Lib.hid (balloc w (.cells #[.string (bs x.sec), .slice a1 n1 c1, .slice a2 n2 c2, .slice a3 n3 c3] 26))
  have HBX := Lib.hid (BlkK.new w #[.string (bs x.sec), .slice a1 n1 c1, .slice a2 n2 c2, .slice a3 n3 c3] 26)
  by_cases hch : chkU x us = 0
  · obtain ⟨hok, hri⟩ := chkU_zero hch
    have hv := val_of hok
    have hle := hv.le
    by_cases hd : d < 0 ∨ 1024 < d
    · have HE := Lib.hid (joinE_out hch hd)
      rw [hch] at HCK
      unfold collV at HCK ⊢
      clear h hok hch hu hri hv
      by_cases q1 : d < 0
      · have t1 : decide (d < 0) = true := by simpa using q1
        go_enter Tryz.func32, Tryz.ntmps32
        obtain ⟨k0, k1, k2, k3⟩ := HBX.out.coll
        go_wp2_with (fail)
        refine (HCK.out _ HB4.out).mono ?_
        rintro e w1 ⟨rfl, hb1⟩
        clear k0 k1 k2 k3
        have HB1 := Lib.hid (bstep HB4.out hb1)
        go_wp2_with (fail)
        go_ret2
        rw [HE.out]
        exact ⟨_, rfl, OwnPl.empty _ _ HB1.out.size, bstep HB1.out (balloc _ _)⟩
      · have t1 : decide (d < 0) = false := by simpa using q1
        have t2 : decide (1024 < d) = true := by simp; omega
        clear hd
        go_enter Tryz.func32, Tryz.ntmps32
        obtain ⟨k0, k1, k2, k3⟩ := HBX.out.coll
        go_wp2_with (fail)
        refine (HCK.out _ HB4.out).mono ?_
        rintro e w1 ⟨rfl, hb1⟩
        clear k0 k1 k2 k3
        have HB1 := Lib.hid (bstep HB4.out hb1)
        go_wp2_with (fail)
        go_ret2
        rw [HE.out]
        exact ⟨_, rfl, OwnPl.empty _ _ HB1.out.size, bstep HB1.out (balloc _ _)⟩
    · have HE := Lib.hid (joinE_in hch hd)
      have t1 : decide (d < 0) = false := by simp; omega
      have t2 : decide (1024 < d) = false := by simp; omega
      have HU := Lib.hid (fun W (hb : Below w.heap.size w W) => (Plcs.mono hu (Nat.le_refl _) hb))
      have HU0 := Lib.hid hu
      have HRS := Lib.hid (fun lo hi (hlh : lo ≤ hi) (hh : hi ≤ n3) W (hb : Below w.heap.size w W) => readingsR x a1 n1 c1 a2 n2 c2 a3 n3 c3 W (h.mono (Nat.le_refl _) hb) hv lo hi hlh (by omega) h32)
      have HRNG := Lib.hid (show ∀ u ∈ us, 0 ≤ u.lo ∧ u.lo < u.hi ∧ u.hi ≤ n3 ∧ u = plcJ x (u.lo, u.hi) from fun u hu => by
        unfold rightB at hri
        rw [Bool.and_eq_true] at hri
        have := okUs_lo hri.1 u hu
        have h5 := of_decide_eq_true this.2.2.2.2
        refine ⟨this.2.1, this.2.2.1, by have := this.2.2.2.1; omega, ?_⟩
        obtain ⟨ul, uh, ur⟩ := u
        simp only at h5
        simp only [plcJ, h5])
      have HJR := Lib.hid (show ∀ k, ∀ q ∈ joinF d [] (us.take k), 0 ≤ q.1 ∧ q.1 < q.2 ∧ q.2 ≤ n3 from fun k q hq => by
        have hpr : rightB x us = true := hri
        unfold rightB at hri
        rw [Bool.and_eq_true] at hri
        have hlo := okUs_lo hri.1
        have hasc := okUs_asc hri.1
        have := (joinF_at (d := d) (n := x.columns.length) (us.take k) [] [] (.start _ _) (fun u hu => by obtain ⟨_, h1, h2, h3, _⟩ := hlo u (List.mem_of_mem_take hu); exact ⟨h1, h2, h3⟩) (by simpa using hasc.sublist (List.take_sublist k us))).rng q hq
        exact ⟨this.1, this.2.1, by omega⟩)
      have HLN := Lib.hid (show ∀ k, (joinF d [] (us.take k)).length ≤ k from fun k => by
        have := joinF_len d (us.take k) []
        rw [List.length_take] at this
        simp only [List.length_nil] at this
        omega)
      have HLAST := Lib.hid (show ∀ k, ∀ u, us[k]? = some u → ∀ q, (joinF d [] (us.take k)).getLast? = some q → q.2 < u.lo from fun k u hu q hq => by
        unfold rightB at hri
        rw [Bool.and_eq_true] at hri
        have hlo := okUs_lo hri.1
        have hasc := okUs_asc hri.1
        have hj := joinF_at (d := d) (n := x.columns.length) (us.take k) [] [] (.start _ _) (fun u hu => by obtain ⟨_, h1, h2, h3, _⟩ := hlo u (List.mem_of_mem_take hu); exact ⟨h1, h2, h3⟩) (by simpa using hasc.sublist (List.take_sublist k us))
        obtain ⟨v, hv, hvq⟩ := hj.last q hq
        rw [← hvq]
        have hvm := List.mem_of_getLast? (by simpa using hv)
        obtain ⟨j, hj2⟩ := List.getElem?_of_mem hvm
        rw [List.getElem?_take] at hj2
        split at hj2
        · rename_i hjk
          obtain ⟨h3, rfl⟩ := List.getElem?_eq_some_iff.1 hj2
          obtain ⟨h4, rfl⟩ := List.getElem?_eq_some_iff.1 hu
          exact (List.pairwise_iff_getElem.1 hasc) j k h3 h4 hjk
        · cases hj2)
      have HSM := Lib.hid (fun lo hi (hh : hi - lo ≤ 1048576) => rdsL_small (x := x) (lo := lo) (hi := hi) hle hh)
      have HLU := Lib.hid hlu
      have HJL := Lib.hid (show joinL d x us = (joinF d [] us).map (plcJ x) from rfl)
      rw [hch] at HCK
      unfold collV at HCK HRS ⊢
      clear h hok hch hri hv hd hu hlu
      go_enter Tryz.func32, Tryz.ntmps32
      obtain ⟨k0, k1, k2, k3⟩ := HBX.out.coll
      go_wp2_with (fail)
      refine (HCK.out _ HB4.out).mono ?_
      rintro e w1 ⟨rfl, hb1⟩
      clear k0 k1 k2 k3
      have HB1 := Lib.hid (bstep HB4.out hb1)
      have HBX1 := Lib.hid (HBX.out.below hb1)
      clear hb1
      have HE0 := Lib.hid (OwnPl.empty w w1 HB1.out.size)
      have HB2 := Lib.hid (bstep HB1.out (balloc w1 (.cells #[] 36)))
      have HBX2 := Lib.hid (HBX1.out.below (balloc w1 (.cells #[] 36)))
      go_wp2_with (fail)
      go_loopw [9, 10] (fun ov kv wr => ∃ k : Nat, k ≤ n ∧ kv = .int .i64 k ∧ OwnPl w wr ov ((joinF d [] (us.take k)).map (plcJ x)) ∧ Below w.heap.size w wr ∧ BlkK wr w.heap.size #[.string (bs x.sec), .slice a1 n1 c1, .slice a2 n2 c2, .slice a3 n3 c3] 26) (fun _ kv _ => n - (intOf kv).toNat)
      case atStart => exact ⟨0, Nat.zero_le _, rfl, HE0.out, HB2.out, HBX2.out⟩
      case round =>
        obtain ⟨wk, rfl⟩ : ∃ wk : World, wk = wr := ⟨_, rfl⟩
        obtain ⟨k, hk, rfl, ho, hb, hbx⟩ := hrel
        have HO := Lib.hid ho
        have HB := Lib.hid hb
        have HX := Lib.hid hbx
        clear ho hb hbx
        obtain ⟨aa, cc, hov, hcc⟩ := HO.out.shape
        subst hov
        obtain ⟨m, hm⟩ : ∃ m, ((joinF d [] (us.take k)).map (plcJ x)).length = m := ⟨_, rfl⟩
        have HM := Lib.hid hm
        have hmk : m ≤ k := by rw [← hm, List.length_map]; exact HLN.out k
        have HO' := Lib.hid (show OwnPl w wk (.slice aa m cc) ((joinF d [] (us.take k)).map (plcJ x)) by have := HO.out; rwa [hm] at this)
        rw [hm] at hcc ⊢
        clear hm
        by_cases hkn : k < n
        · obtain ⟨u, bb, oo, hu, rfl, ⟨ar, nr, kr, g0, g1, g2, hRd, i64l, i64h, hnk⟩⟩ := (HU.out wk HB.out).at hkn
          obtain ⟨u', bb', oo', hu', hbb', ⟨ar', nr', kr', g0', g1', g2', hRd', _, _, hnk'⟩⟩ := HU0.out.at hkn
          injection hbb' with hbb'
          injection hbb' with hb1' hb2' _
          subst hb1' hb2'
          have e3 := g2.symm.trans (cell_keep HB.out g2')
          injection e3 with e3
          injection e3 with e31 e32 e33
          subst e31 e32 e33
          have e4 : u' = u := Option.some.inj (hu'.symm.trans hu)
          subst e4
          have HRV := Lib.hid hRd'
          have HJT := Lib.hid (joinF_take (d := d) hu)
          have HLQ := Lib.hid (fun q hq => HLAST.out k _ hu q hq)
          obtain ⟨r1, r2, r3, r4⟩ := HRNG.out u' (List.mem_of_getElem? hu)
          have HR4 := Lib.hid r4
          obtain ⟨ulo, uhi, rds⟩ := u'
          simp only at g0 g1 r1 r2 r3 HJT i64l i64h HR4 HLQ HRV
          have i1 : (k : Int) < (n : Int) := by omega
          clear hu hRd hRd' hu' g0' g1' g2' r4
          rcases Nat.eq_zero_or_pos m with h0 | h0
          · have e0 : decide ((0 : Int) < (m : Int)) = false := by simp; omega
            have e1 : decide (0 < m) = false := by simp; omega
            have HJS := Lib.hid (jstep_none (d := d) (lo := ulo) (hi := uhi) (out := joinF d [] (us.take k)) (by
              have := HM.out
              rw [List.length_map] at this
              exact List.eq_nil_of_length_eq_zero (by omega)))
            have hml : m < 4611686018427387903 := by omega
            clear h0
            go_wp2_with (fail)
            go_quiet (fail)
            have HBX9 := Lib.hid (bdrewN wk nq)
            have HXP := Lib.hid (HX.out.below HBX9.out)
            have hszw := HB.out.size
            obtain ⟨vs, hrow, hnx⟩ := OwnPl.ready (u := ⟨ulo, uhi, rds⟩) (z := .slice ar nr kr) (HO'.out.below HBX9.out) (by exact hszw) i64l i64h (.inr ⟨ar, nr, kr, rfl, hnk, HRV.out⟩)
            rw [HM.out] at hrow hnx
            have HROW := Lib.hid hrow
            have HNX := Lib.hid hnx
            have x0 := cell_keep HBX9.out g0
            have x1 := cell_keep HBX9.out g1
            have x2 := cell_keep HBX9.out g2
            obtain ⟨WB, hWB⟩ : ∃ WB, wk.drewN nq = WB := ⟨_, rfl⟩
            rw [hWB] at x0 x1 x2 HROW HNX HXP HBX9 ⊢
            have HNW := Lib.hid (show ∀ (j : Nat) (u : Value), [.int .i64 ulo, .int .i64 uhi, .slice ar nr kr][j]? = some u → (WB.alloc (.cells #[.int .i64 ulo, .int .i64 uhi, .slice ar nr kr] 36)).cell? ((⟨WB.heap.size, 0, none⟩ : Addr).add j) = some u from World.news_of_block (cs := #[.int .i64 ulo, .int .i64 uhi, .slice ar nr kr]) (heap_fresh rfl))
            have hszB : w.heap.size ≤ WB.heap.size := Nat.le_trans hszw HBX9.out.size
            clear hrow hnx hWB g0 g1 g2
            go_wp2_with (at_builtin; refine wpList_append_own _ rfl _ _ 31 rfl w.heap.size 36 i0 (.agg #[.int .i64 0, .int .i64 0, .slice none 0 0]) 3 40 Tryz.underlying31 hi0 hz0 hz1 hz2 rfl (by decide) _ _ _ rfl (HROW.out.alloc _) ⟨WB.heap.size, 0, none⟩ 1 1 [.int .i64 ulo, .int .i64 uhi, .slice ar nr kr] rfl rfl HNW.out (by simp [Value.oneCell']) (by unfold maxLen; omega) (by omega) (by simp; omega) ?_; intro v1 w4 hown1 hgrow1 _; have HW3 := Lib.hid hown1; have HG := Lib.hid hgrow1; clear hown1 hgrow1)
            obtain ⟨j1, j2⟩ := HNX.out _ _ _ HW3.out HG.out
            go_roundw
            case rel => exact ⟨k + 1, by omega, by simp, by rw [HJT.out, HJS.out, List.map_append, List.map_singleton, ← HR4.out]; exact j1, (bstep HB.out HBX9.out).trans j2, (HXP.out.below (balloc _ _)).keptE HG.out (BlkK.apart HXP.out HROW.out (by decide))⟩
            case measure => simp [intOf]; omega
          · obtain ⟨r, rfl⟩ : ∃ r, m = r + 1 := ⟨m - 1, by omega⟩
            obtain ⟨q, hq, hql⟩ := last_at2 (l := joinF d [] (us.take k)) (m := r) (by have := HM.out; rwa [List.length_map] at this)
            have hqr := HJR.out k q (List.mem_of_getElem? hq)
            have hqlt := HLQ.out q hql
            obtain ⟨q1, q2⟩ := q
            simp only at hqr hqlt
            obtain ⟨p1, p2, p3⟩ := hqr
            have hqm : ((joinF d [] (us.take k)).map (plcJ x))[r]? = some (plcJ x (q1, q2)) := by rw [List.getElem?_map, hq]; rfl
            obtain ⟨g, cap, z, hvg, hgw, y0, y1, y2, yf, _, _, _⟩ := HO'.out.at hqm
            injection hvg with hvg1 hvg2 hvg3
            clear hvg2
            subst hvg1 hvg3
            simp only [plcJ] at y0 y1
            have HY0 := Lib.hid hqm
            have HC0 := Lib.hid y0
            have HC1 := Lib.hid y1
            have HC2 := Lib.hid y2
            have e0 : decide ((0 : Int) < (r : Int) + 1) = true := decide_eq_true (by omega)
            have i3 : (r : Int) < (r : Int) + 1 := by omega
            by_cases hf : d < ulo - q2
            · have tf : decide (ulo - q2 ≤ d) = false := by simp; omega
              have HJS := Lib.hid (jstep_far (lo := ulo) (hi := uhi) hql hf)
              clear hq hql hqm y0 y2 yf
              have hw1 : IntKind.i64.wrap ((r : Int) + 1 - 1) = (r : Int) := by rw [show (r : Int) + 1 - 1 = (r : Int) by omega]; exact Go.IntWalk.i64_in _ (by omega)
              have hw2 : IntKind.i64.wrap (r : Int) = (r : Int) := Go.IntWalk.i64_in _ (by omega)
              have hw3 : IntKind.i64.wrap (ulo - q2) = ulo - q2 := Go.IntWalk.i64_in _ (by omega)
              go_wp2_with (fail)
              go_quiet (fail)
              clear hw1 hw2 hw3 y1
              have HBX9 := Lib.hid (bdrewN wk nq)
              have HXP := Lib.hid (HX.out.below HBX9.out)
              have hszw := HB.out.size
              obtain ⟨vs, hrow, hnx⟩ := OwnPl.ready (u := ⟨ulo, uhi, rds⟩) (z := .slice ar nr kr) (HO'.out.below HBX9.out) (by exact hszw) i64l i64h (.inr ⟨ar, nr, kr, rfl, hnk, HRV.out⟩)
              rw [HM.out] at hrow hnx
              have HROW := Lib.hid hrow
              have HNX := Lib.hid hnx
              have x0 := cell_keep HBX9.out g0
              have x1 := cell_keep HBX9.out g1
              have x2 := cell_keep HBX9.out g2
              obtain ⟨WB, hWB⟩ : ∃ WB, wk.drewN nq = WB := ⟨_, rfl⟩
              rw [hWB] at x0 x1 x2 HROW HNX HXP HBX9 ⊢
              have HNW := Lib.hid (show ∀ (j : Nat) (u : Value), [.int .i64 ulo, .int .i64 uhi, .slice ar nr kr][j]? = some u → (WB.alloc (.cells #[.int .i64 ulo, .int .i64 uhi, .slice ar nr kr] 36)).cell? ((⟨WB.heap.size, 0, none⟩ : Addr).add j) = some u from World.news_of_block (cs := #[.int .i64 ulo, .int .i64 uhi, .slice ar nr kr]) (heap_fresh rfl))
              have hszB : w.heap.size ≤ WB.heap.size := Nat.le_trans hszw HBX9.out.size
              clear hrow hnx hWB g0 g1 g2
              go_wp2_with (at_builtin; refine wpList_append_own _ rfl _ _ 31 rfl w.heap.size 36 i0 (.agg #[.int .i64 0, .int .i64 0, .slice none 0 0]) 3 40 Tryz.underlying31 hi0 hz0 hz1 hz2 rfl (by decide) _ _ _ rfl (HROW.out.alloc _) ⟨WB.heap.size, 0, none⟩ 1 1 [.int .i64 ulo, .int .i64 uhi, .slice ar nr kr] rfl rfl HNW.out (by simp [Value.oneCell']) (by unfold maxLen; omega) (by omega) (by simp; omega) ?_; intro v1 w4 hown1 hgrow1 _; have HW3 := Lib.hid hown1; have HG := Lib.hid hgrow1; clear hown1 hgrow1)
              obtain ⟨j1, j2⟩ := HNX.out _ _ _ HW3.out HG.out
              go_roundw
              case rel => exact ⟨k + 1, by omega, by simp, by rw [HJT.out, HJS.out, List.map_append, List.map_singleton, ← HR4.out]; exact j1, (bstep HB.out HBX9.out).trans j2, (HXP.out.below (balloc _ _)).keptE HG.out (BlkK.apart HXP.out HROW.out (by decide))⟩
              case measure => simp [intOf]; omega
            · have tf : decide (ulo - q2 ≤ d) = true := by simp; omega
              have HJS := Lib.hid (jstep_near (lo := ulo) (hi := uhi) hql hf)
              have HSL := Lib.hid (set_last (l := joinF d [] (us.take k)) (m := r) (by have := HM.out; rwa [List.length_map] at this) (q1, uhi))
              clear hq hql hqm y2 yf
              have hw1 : IntKind.i64.wrap ((r : Int) + 1 - 1) = (r : Int) := by rw [show (r : Int) + 1 - 1 = (r : Int) by omega]; exact Go.IntWalk.i64_in _ (by omega)
              have hw2 : IntKind.i64.wrap (r : Int) = (r : Int) := Go.IntWalk.i64_in _ (by omega)
              have hw3 : IntKind.i64.wrap (ulo - q2) = ulo - q2 := Go.IntWalk.i64_in _ (by omega)
              go_wp2_with (fail)
              go_quiet (fail)
              have HBX9 := Lib.hid (bdrewN wk nq)
              have HXP := Lib.hid (HX.out.below HBX9.out)
              have HOB := Lib.hid (HO'.out.below HBX9.out)
              have x0 := cell_keep HBX9.out g0
              have x1 := cell_keep HBX9.out g1
              have x2 := cell_keep HBX9.out g2
              have HX1 := Lib.hid x1
              have v0 := cell_keep HBX9.out y0
              have v1 := cell_keep HBX9.out y1
              obtain ⟨lo, hlo⟩ := Int.eq_ofNat_of_zero_le p1
              obtain ⟨hi, hhi⟩ := Int.eq_ofNat_of_zero_le (show 0 ≤ uhi by clear hw1 hw2 hw3; omega)
              subst hlo hhi
              obtain ⟨WB, hWB⟩ : ∃ WB, wk.drewN nq = WB := ⟨_, rfl⟩
              rw [hWB] at x0 x1 x2 HX1 v0 v1 HOB HXP HBX9 ⊢
              clear hWB hw3 g0 g1 g2 y0 y1
              go_wp2_with (fail)
              refine (wpIn_wide (n := 20)).1 ?_
              refine wpIn_region_heldN (fun W' => BlkK W' w.heap.size #[.string (bs x.sec), .slice a1 n1 c1, .slice a2 n2 c2, .slice a3 n3 c3] 26 ∧ W'.cell? ⟨bb, oo + k * 3 + 1, none⟩ = some (.int .i64 (hi : Int))) 19 [0, 1, 2, 3, 4, 5, 6, 7, 8, 9, 10, 11, 12, 13, 14, 15] [16, 17, 18, 19] (fun _ => trivial) (by kernel_rfl) (by kernel_rfl) ⟨HXP.out, x1⟩ ?_
              apply wpTakes_consD rfl rfl (by rfl)
              case hy =>
                rintro W' ⟨e1, e2⟩
                go_simp
                first | done | with_reducible rfl
              simp only [List.setIfInBounds_toArray, List.set_cons_zero, List.set_cons_succ]
              apply wpTakes_consD rfl rfl (by rfl)
              case hy =>
                rintro W' ⟨e1, e2⟩
                go_simp
                first | done | with_reducible rfl
              simp only [List.setIfInBounds_toArray, List.set_cons_zero, List.set_cons_succ]
              apply wpTakes_consD rfl rfl (by rfl)
              case hy =>
                rintro W' ⟨e1, e2⟩
                go_simp
                first | done | with_reducible rfl
              simp only [List.setIfInBounds_toArray, List.set_cons_zero, List.set_cons_succ]
              apply wpTakes_consD rfl rfl (by rfl)
              case hy =>
                rintro W' ⟨e1, e2⟩
                go_simp
                first | done | with_reducible rfl
              simp only [List.setIfInBounds_toArray, List.set_cons_zero, List.set_cons_succ]
              apply wpTakes_consD rfl rfl (by rfl)
              case hy =>
                rintro W' ⟨e1, e2⟩
                go_simp
                first | done | with_reducible rfl
              simp only [List.setIfInBounds_toArray, List.set_cons_zero, List.set_cons_succ]
              apply wpTakes_consD rfl rfl (by rfl)
              case hy =>
                rintro W' ⟨e1, e2⟩
                go_simp
                first | done | with_reducible rfl
              simp only [List.setIfInBounds_toArray, List.set_cons_zero, List.set_cons_succ]
              apply wpTakes_consD rfl rfl (by rfl)
              case hy =>
                rintro W' ⟨e1, e2⟩
                go_simp
                first | done | with_reducible rfl
              simp only [List.setIfInBounds_toArray, List.set_cons_zero, List.set_cons_succ]
              apply wpTakes_consD rfl rfl (by rfl)
              case hy =>
                rintro W' ⟨e1, e2⟩
                go_simp
                first | done | with_reducible rfl
              simp only [List.setIfInBounds_toArray, List.set_cons_zero, List.set_cons_succ]
              apply wpTakes_consD rfl rfl (by rfl)
              case hy =>
                rintro W' ⟨e1, e2⟩
                obtain ⟨d0, d1, d2, d3⟩ := e1.coll
                go_simp
                first | done | with_reducible rfl
              simp only [List.setIfInBounds_toArray, List.set_cons_zero, List.set_cons_succ]
              apply wpTakes_consD rfl rfl (by rfl)
              case hy =>
                rintro W' ⟨e1, e2⟩
                obtain ⟨d0, d1, d2, d3⟩ := e1.coll
                go_simp
                first | done | with_reducible rfl
              simp only [List.setIfInBounds_toArray, List.set_cons_zero, List.set_cons_succ]
              apply wpTakes_consD rfl rfl (by rfl)
              case hy =>
                rintro W' ⟨e1, e2⟩
                go_simp
                first | done | with_reducible rfl
              simp only [List.setIfInBounds_toArray, List.set_cons_zero, List.set_cons_succ]
              apply wpTakes_consD rfl rfl (by rfl)
              case hy =>
                rintro W' ⟨e1, e2⟩
                go_simp
                first | done | with_reducible rfl
              simp only [List.setIfInBounds_toArray, List.set_cons_zero, List.set_cons_succ]
              apply wpTakes_consD rfl rfl (by rfl)
              case hy =>
                rintro W' ⟨e1, e2⟩
                go_simp
                first | done | with_reducible rfl
              simp only [List.setIfInBounds_toArray, List.set_cons_zero, List.set_cons_succ]
              apply wpTakes_consD rfl rfl (by rfl)
              case hy =>
                rintro W' ⟨e1, e2⟩
                go_simp
                first | done | with_reducible rfl
              simp only [List.setIfInBounds_toArray, List.set_cons_zero, List.set_cons_succ]
              apply wpTakes_consD rfl rfl (by rfl)
              case hy =>
                rintro W' ⟨e1, e2⟩
                go_simp
                first | done | with_reducible rfl
              simp only [List.setIfInBounds_toArray, List.set_cons_zero, List.set_cons_succ]
              apply wpTakes_consD rfl rfl (by rfl)
              case hy =>
                rintro W' ⟨e1, e2⟩
                obtain ⟨d0, d1, d2, d3⟩ := e1.coll
                go_simp
                first | done | with_reducible rfl
              simp only [List.setIfInBounds_toArray, List.set_cons_zero, List.set_cons_succ]
              refine wpSeqR_cons rfl ?_
              gi_wp2_with (fail)
              refine ⟨trivial, (callsIn_wide.2 (HRS.out lo hi (by clear hw1 hw2; omega) (by clear hw1 hw2; omega) _ (bstep (bstep HB.out HBX9.out) (Below.refl _ _).drew))).mono ?_⟩
              rintro e W2 ⟨z2, rfl, hz, hb2⟩
              obtain ⟨a9, k9, rfl, hr9⟩ := hz.rdgs (HSM.out lo hi (by clear hw1 hw2; omega))
              obtain ⟨n9, hn9⟩ : ∃ n9, (rdsL x lo hi).length = n9 := ⟨_, rfl⟩
              rw [hn9] at hz ⊢
              have HBD := Lib.hid (bstep (Below.refl WB.heap.size WB).drew hb2)
              have HZ := Lib.hid hz
              have HOC := Lib.hid (HOB.out.below HBD.out)
              have HXC := Lib.hid (HXP.out.below HBD.out)
              have HX12 := Lib.hid (cell_keep HBD.out HX1.out)
              have hszq := HBX9.out.size
              clear hb2 hz hr9 hn9 x0 x1 x2 v0 v1
              gi_wp2_with (fail)
              refine ⟨fun _ => ⟨HXC.out, HX12.out⟩, ?_⟩
              refine wpSeqR_cons rfl ?_
              gi_wp2_with (fail)
              refine ⟨fun _ => ⟨HXC.out, HX12.out⟩, ?_⟩
              refine wpSeqR_cons rfl ?_
              gi_wp2_with (fail)
              refine ⟨fun _ => ⟨HXC.out, HX12.out⟩, ?_⟩
              obtain ⟨g', cap', z', hvg, _, y0, y1, y2, yf, _, _, _⟩ := HOC.out.at HY0.out
              injection hvg with hvg1 hvg2 hvg3
              clear hvg2 hvg3
              injection hvg1 with hvg1
              injection hvg1 with hvg1 _ _
              subst hvg1
              simp only [plcJ] at y0 y1
              have hfr0 := yf (r * 3)
              have hfr1 := yf (r * 3 + 1)
              have hfr2 := yf (r * 3 + 2)
              refine wpSeqR_cons rfl ?_
              gi_wp2_with (fail)
              refine wpSeqR_nilN ?_
              gi_wp2_with (fail)
              go_wp2_with (fail)
              have HST := Lib.hid (show OwnPl w (((W2.setCell ⟨g, r * 3, none⟩ (.int .i64 (lo : Int))).setCell ⟨g, r * 3 + 1, none⟩ (.int .i64 (hi : Int))).setCell ⟨g, r * 3 + 2, none⟩ (.slice a9 n9 k9)) (.slice (some ⟨g, 0, none⟩) (r + 1) cc) (((joinF d [] (us.take k)).map (plcJ x)).set r (plcJ x ((lo : Int), (hi : Int)))) ∧ Below w.heap.size W2 (((W2.setCell ⟨g, r * 3, none⟩ (.int .i64 (lo : Int))).setCell ⟨g, r * 3 + 1, none⟩ (.int .i64 (hi : Int))).setCell ⟨g, r * 3 + 2, none⟩ (.slice a9 n9 k9)) from by
                have h1 : OwnPl w W2 (.slice (some ⟨g, 0, none⟩) ((joinF d [] (us.take k)).map (plcJ x)).length cc) ((joinF d [] (us.take k)).map (plcJ x)) := by rw [HM.out]; exact HOC.out
                have := OwnPl.setAll h1 HY0.out i64h (z := .slice a9 n9 k9) (rds := rdsL x lo hi) (.inl (HZ.out.mono (Nat.le_trans HB.out.size hszq)))
                rwa [HM.out] at this)
              obtain ⟨vs, hrow⟩ := HOC.out.row
              have HNE := Lib.hid (BlkK.apart HXC.out hrow (by decide))
              clear hrow y0 y1 y2 yf hfr0 hfr1 hfr2 hw1 hw2
              go_roundw
              case rel => exact ⟨k + 1, by omega, by simp, by rw [HJT.out, HJS.out, ← HSL.out, List.map_set]; exact HST.out.1, (bstep (bstep HB.out HBX9.out) HBD.out).trans HST.out.2, ((HXC.out.keptE (grown_set _ _ _ _) (by simpa [Value.ownBlock] using HNE.out)).keptE (grown_set _ _ _ _) (by simpa [Value.ownBlock] using HNE.out)).keptE (grown_set _ _ _ _) (by simpa [Value.ownBlock] using HNE.out)⟩
              case measure => simp [intOf]; omega
        · obtain rfl : k = n := by omega
          have HTK := Lib.hid (show us.take k = us from List.take_of_length_le (by rw [HLU.out]; exact Nat.le_refl _))
          rw [HTK.out] at HO'
          go_wp2_with (fail)
          go_ret2
          rw [HE.out]
          exact ⟨_, rfl, HO'.out, HB.out⟩
  · have HE := Lib.hid (joinE_bad (d := d) hch)
    have dn : (chkU x us != 0) = true := by simpa using hch
    obtain ⟨cc, hcc⟩ : ∃ cc, chkU x us = cc := ⟨_, rfl⟩
    rw [hcc] at HCK dn HE
    unfold collV at HCK ⊢
    clear h hu hch hcc
    go_enter Tryz.func32, Tryz.ntmps32
    obtain ⟨q0, q1, q2, q3⟩ := HBX.out.coll
    go_wp2_with (fail)
    refine (HCK.out _ HB4.out).mono ?_
    rintro e w1 ⟨rfl, hb1⟩
    clear q0 q1 q2 q3
    have HB1 := Lib.hid (bstep HB4.out hb1)
    go_wp2_with (fail)
    go_ret2
    rw [HE.out]
    exact ⟨_, rfl, OwnPl.empty _ _ HB1.out.size, bstep HB1.out (balloc _ _)⟩
end Go.Proofs.YthfppkcefnmdoaaGreatDoor
