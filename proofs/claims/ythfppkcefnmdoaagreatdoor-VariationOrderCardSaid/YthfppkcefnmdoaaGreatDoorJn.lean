/-
  Join: the program's way.
-/
import Derived.Test.YthfppkcefnmdoaaGreatDoorCu
import Derived.Deep.QuietTactic
import Derived.BigQuiet
import Derived.IntWalk
namespace Go.Ap
open Go Go.RowKit
theorem OwnPl.shape {w0 w : World} {v : Value} {us : List Plc} (h : OwnPl w0 w v us) : ∃ a c, v = .slice a us.length c ∧ us.length ≤ c := by
  obtain ⟨vs, h1, _⟩ := h
  rcases h1.2 with ⟨rfl, h0⟩ | ⟨g, cap, cur, rfl, _, _, hc, _⟩
  · exact ⟨none, 0, by rw [h0], by omega⟩
  · exact ⟨_, cap, rfl, hc⟩
theorem grown_set (W : World) (B o : Nat) (v : Value) : W.grownBy (W.setCell ⟨B, o, none⟩ v) (some B) := by
  have gs := grownBy_setCell' W B v
  exact ⟨gs.os, gs.tape, gs.output, by simp [World.setCell], fun k hk hne => by simp [World.setCell, Array.getElem?_modify, show ¬ B = k from fun e => hne (by rw [e])]⟩
theorem part_at {α β : Type} {f g : α → β} {ps : List α} {k : Nat} {q : α} (h : ps[k]? = some q) : ((ps.take k).map f ++ (ps.drop k).map g)[k]? = some (g q) := by
  have hk := (List.getElem?_eq_some_iff.1 h).1
  rw [List.getElem?_append_right (by simp; omega)]
  have e : k - ((ps.take k).map f).length = 0 := by simp; omega
  rw [e, List.getElem?_map, List.getElem?_drop, Nat.add_zero, h]; rfl
theorem part_set {α β : Type} {f g : α → β} {ps : List α} {k : Nat} {q : α} (h : ps[k]? = some q) : ((ps.take k).map f ++ (ps.drop k).map g).set k (f q) = (ps.take (k + 1)).map f ++ (ps.drop (k + 1)).map g := by
  obtain ⟨hk, hq⟩ := List.getElem?_eq_some_iff.1 h
  have e : ((ps.take k).map f).length = k := by simp; omega
  rw [List.set_append, if_neg (by omega), e, Nat.sub_self, List.drop_eq_getElem_cons hk, hq, List.map_cons, List.set_cons_zero, List.take_add_one, h]
  simp
end Go.Ap
namespace Go.Proofs.YthfppkcefnmdoaaGreatDoor
open Go.RowKit Go.Ap Go.Shelf Go.Proofs

attribute [local go_sem] Oper.semAt_some bs_toList empty_toList bs_size bs_extract
/-- a row of places of the call's own, and an error -/
def GivesU (w : World) (r : List Plc × Int) (e : Ending) (w' : World) : Prop := ∃ v, e = .returned (.tuple #[v, .int .i64 r.2]) ∧ OwnPl w w' v r.1 ∧ Below w.heap.size w w'
theorem bare_len (ps : List (Int × Int)) : (ps.map bareJ).length = ps.length := List.length_map _
set_option maxRecDepth 100000 in
set_option maxHeartbeats 8000000 in
theorem joinP (x : Coll) (a1 : Option Addr) (n1 c1 : Nat) (a2 : Option Addr) (n2 c2 : Nat) (a3 : Option Addr) (n3 c3 : Nat) (w : World) (h : CollM w a1 a2 a3 n1 n2 n3 x) (hc1 : n1 ≤ c1) (hev : EV w) (h32 : x.columns.length ≤ 1048576)
    (a : Option Addr) (n c : Nat) (us : List Plc) (hu : Plcs w a n us) (hn : n ≤ 1048576) (d : Int) :
    Calls Tryz.prog 22 #[collV x.sec a1 n1 c1 a2 n2 c2 a3 n3 c3, .slice a n c, .int .i64 d] w (GivesU w (joinE x us d)) := by
  obtain ⟨i0, hi0, hz0, hz1, hz2⟩ := info_parts infoPl
  have hl3 := h.columns.len
  have hlu := hu.len
  have HCK := Lib.hid (fun W (hb : Below w.heap.size w W) => checkU x a1 n1 c1 a2 n2 c2 a3 n3 c3 W (h.mono (Nat.le_refl _) hb) hc1 (hev.mono (Nat.le_refl _) hb) h32 a n c us (Plcs.mono hu (Nat.le_refl _) hb))
  have HB4 := Lib.hid (balloc w (.cells #[.string (bs x.sec), .slice a1 n1 c1, .slice a2 n2 c2, .slice a3 n3 c3] 26))
  have HBX := Lib.hid (BlkK.new w #[.string (bs x.sec), .slice a1 n1 c1, .slice a2 n2 c2, .slice a3 n3 c3] 26)
  by_cases hch : chkU x us = 0
  · obtain ⟨hok, hri⟩ := chkU_zero hch
    have hv := val_of hok
    have hle := hv.le
    by_cases hd : d < 0 ∨ 1024 < d
    · have HE := Lib.hid (joinE_out hch hd)
      rw [hch] at HCK
      unfold collV at HCK ⊢
      clear h hc1 hev hok hch hu hri hv
      by_cases q1 : d < 0
      · have t1 : decide (d < 0) = true := by simpa using q1
        go_enter Tryz.func22, Tryz.ntmps22
        obtain ⟨k0, k1, k2, k3⟩ := HBX.out.coll
        go_wp2_with (fail)
        refine (HCK.out _ HB4.out).mono ?_
        rintro e w1 ⟨rfl, hb1⟩
        clear k0 k1 k2 k3
        have HB1 := Lib.hid (bstep HB4.out hb1)
        go_wp2_with (fail)
        go_ret2
        rw [HE.out]
        exact ⟨_, rfl, OwnPl.nil _ _, HB1.out⟩
      · have t1 : decide (d < 0) = false := by simpa using q1
        have t2 : decide (1024 < d) = true := by simp; omega
        clear hd
        go_enter Tryz.func22, Tryz.ntmps22
        obtain ⟨k0, k1, k2, k3⟩ := HBX.out.coll
        go_wp2_with (fail)
        refine (HCK.out _ HB4.out).mono ?_
        rintro e w1 ⟨rfl, hb1⟩
        clear k0 k1 k2 k3
        have HB1 := Lib.hid (bstep HB4.out hb1)
        go_wp2_with (fail)
        go_ret2
        rw [HE.out]
        exact ⟨_, rfl, OwnPl.nil _ _, HB1.out⟩
    · have HE := Lib.hid (joinE_in hch hd)
      have t1 : decide (d < 0) = false := by simp; omega
      have t2 : decide (1024 < d) = false := by simp; omega
      have HU := Lib.hid (fun W (hb : Below w.heap.size w W) => (Plcs.mono hu (Nat.le_refl _) hb))
      have HRS := Lib.hid (fun lo hi (hlh : lo ≤ hi) (hh : hi ≤ n3) W (hb : Below w.heap.size w W) => readingsP x a1 n1 c1 a2 n2 c2 a3 n3 c3 W (h.mono (Nat.le_refl _) hb) hv lo hi hlh (by omega) h32)
      have HRNG := Lib.hid (show ∀ u ∈ us, 0 ≤ u.lo ∧ u.lo < u.hi ∧ u.hi ≤ n3 from fun u hu => by
        unfold rightB at hri
        rw [Bool.and_eq_true] at hri
        have := okUs_lo hri.1 u hu
        exact ⟨this.2.1, this.2.2.1, by have := this.2.2.2.1; omega⟩)
      have HJR := Lib.hid (show ∀ q ∈ joinF d [] us, 0 ≤ q.1 ∧ q.1 < q.2 ∧ q.2 ≤ n3 from fun q hq => by
        have := (join_at (d := d) hri).rng q hq
        exact ⟨this.1, this.2.1, by omega⟩)
      have HPR := Lib.hid (show ∀ k, ∀ q ∈ joinF d [] (us.take k), (0 ≤ q.1 ∧ q.1 ≤ n3) ∧ (0 ≤ q.2 ∧ q.2 ≤ n3) from fun k q hq => by
        refine joinF_ends (fun z => 0 ≤ z ∧ z ≤ n3) (us.take k) [] (fun u hu => ?_) (fun q hq => by cases hq) q hq
        have := HRNG.out u (List.mem_of_mem_take hu)
        omega)
      have HLN := Lib.hid (show ∀ k, (joinF d [] (us.take k)).length ≤ k from fun k => by
        have := joinF_len d (us.take k) []
        rw [List.length_take] at this
        simp only [List.length_nil] at this
        omega)
      have HSM := Lib.hid (fun lo hi (hh : hi - lo ≤ 1048576) => rdsL_small (x := x) (lo := lo) (hi := hi) hle hh)
      have HLU := Lib.hid hlu
      have HJL := Lib.hid (show joinL d x us = (joinF d [] us).map (plcJ x) from rfl)
      rw [hch] at HCK
      unfold collV at HCK HRS ⊢
      clear h hc1 hev hok hch hri hv hd hu hlu
      go_enter Tryz.func22, Tryz.ntmps22
      obtain ⟨k0, k1, k2, k3⟩ := HBX.out.coll
      go_wp2_with (fail)
      refine (HCK.out _ HB4.out).mono ?_
      rintro e w1 ⟨rfl, hb1⟩
      clear k0 k1 k2 k3
      have HB1 := Lib.hid (bstep HB4.out hb1)
      have HBX1 := Lib.hid (HBX.out.below hb1)
      clear hb1
      go_wp2_with (fail)
      go_loopw [9, 29] (fun ov kv wr => ∃ k : Nat, k ≤ n ∧ kv = .int .i64 k ∧ OwnPl w wr ov ((joinF d [] (us.take k)).map bareJ) ∧ Below w.heap.size w wr ∧ BlkK wr w.heap.size #[.string (bs x.sec), .slice a1 n1 c1, .slice a2 n2 c2, .slice a3 n3 c3] 26) (fun _ kv _ => n - (intOf kv).toNat)
      case atStart => exact ⟨0, Nat.zero_le _, rfl, OwnPl.nil _ _, HB1.out, HBX1.out⟩
      case round =>
        obtain ⟨wk, rfl⟩ : ∃ wk : World, wk = wr := ⟨_, rfl⟩
        obtain ⟨k, hk, rfl, ho, hb, hbx⟩ := hrel
        have HO := Lib.hid ho
        have HB := Lib.hid hb
        have HX := Lib.hid hbx
        clear ho hb hbx
        obtain ⟨aa, cc, hov, hcc⟩ := HO.out.shape
        subst hov
        obtain ⟨m, hm⟩ : ∃ m, ((joinF d [] (us.take k)).map bareJ).length = m := ⟨_, rfl⟩
        have HM := Lib.hid hm
        have hmk : m ≤ k := by rw [← hm, List.length_map]; exact HLN.out k
        rw [hm] at hcc ⊢
        clear hm
        by_cases hkn : k < n
        · obtain ⟨u, bb, oo, hu, rfl, ⟨ar, nr, kr, g0, g1, g2, hRd, i64l, i64h, _⟩⟩ := (HU.out wk HB.out).at hkn
          have HUK := Lib.hid hu
          have HJT := Lib.hid (joinF_take (d := d) hu)
          obtain ⟨r1, r2, r3⟩ := HRNG.out u (List.mem_of_getElem? hu)
          obtain ⟨ulo, uhi, rds⟩ := u
          simp only at g0 g1 r1 r2 r3 HJT i64l i64h
          obtain ⟨WA, hWA⟩ : ∃ WA, wk.alloc (.cells #[.int .i64 ulo, .int .i64 uhi, .slice ar nr kr] 36) = WA := ⟨_, rfl⟩
          have hbA : Below wk.heap.size wk WA := by rw [← hWA]; exact balloc _ _
          have HBA := Lib.hid (bstep HB.out hbA)
          have HXA := Lib.hid (HX.out.below hbA)
          have HOA := Lib.hid (HO.out.below hbA)
          have H60 := Lib.hid (show WA.cell? ⟨wk.heap.size, 0, none⟩ = some (.int .i64 ulo) by rw [← hWA]; exact cell_fresh rfl rfl)
          have H61 := Lib.hid (show WA.cell? ⟨wk.heap.size, 1, none⟩ = some (.int .i64 uhi) by rw [← hWA]; exact cell_fresh rfl rfl)
          have HWA := Lib.hid hWA
          have hszA : wk.heap.size < WA.heap.size := by rw [← hWA]; simp
          clear hu hRd hbA hWA
          have hul : ulo ≤ 1048576 := by omega
          rcases Nat.eq_zero_or_pos m with h0 | h0
          · have e0 : ((m : Int) == 0) = true := by rw [beq_iff_eq]; omega
            have HJS := Lib.hid (jstep_none (d := d) (lo := ulo) (hi := uhi) (out := joinF d [] (us.take k)) (by
              have := HM.out
              rw [List.length_map] at this
              exact List.eq_nil_of_length_eq_zero (by omega)))
            go_wp2_with (fail)
            rw [HWA.out]
            have u0 := H60.out
            have u1 := H61.out
            go_quiet (fail)
            clear u0 u1
            have HBX := Lib.hid (bdrewN WA nq)
            have u0 := cell_keep HBX.out H60.out
            have u1 := cell_keep HBX.out H61.out
            have hszw := HBA.out.size
            obtain ⟨vs, hrow, hnx⟩ := OwnPl.ready (u := bareJ (ulo, uhi)) (z := .slice none 0 0) (HOA.out.below HBX.out) (by exact hszw) i64l i64h (.inl (OwnRd.nil _ _))
            rw [HM.out] at hrow hnx
            have HROW := Lib.hid hrow
            have HNX := Lib.hid hnx
            have HAP := Lib.hid (HXA.out.below HBX.out)
            obtain ⟨WB, hWB⟩ : ∃ WB, WA.drewN nq = WB := ⟨_, rfl⟩
            rw [hWB] at u0 u1 HROW HNX HAP HBX ⊢
            have HNW := Lib.hid (show ∀ (j : Nat) (u : Value), [.int .i64 ulo, .int .i64 uhi, .slice none 0 0][j]? = some u → (WB.alloc (.cells #[.int .i64 ulo, .int .i64 uhi, .slice none 0 0] 36)).cell? ((⟨WB.heap.size, 0, none⟩ : Addr).add j) = some u from World.news_of_block (cs := #[.int .i64 ulo, .int .i64 uhi, .slice none 0 0]) (heap_fresh rfl))
            have hszB : w.heap.size ≤ WB.heap.size := Nat.le_trans hszw HBX.out.size
            clear hrow hnx hWB
            go_wp2_with (at_builtin; refine wpList_append_own _ rfl _ _ 31 rfl w.heap.size 36 i0 (.agg #[.int .i64 0, .int .i64 0, .slice none 0 0]) 3 40 Tryz.underlying31 hi0 hz0 hz1 hz2 rfl (by decide) _ _ _ rfl (HROW.out.alloc _) ⟨WB.heap.size, 0, none⟩ 1 1 [.int .i64 ulo, .int .i64 uhi, .slice none 0 0] rfl rfl HNW.out (by simp [Value.oneCell']) (by unfold maxLen; omega) (by omega) (by simp; omega) ?_; intro v1 w4 hown1 hgrow1 _; have HW3 := Lib.hid hown1; have HG := Lib.hid hgrow1; clear hown1 hgrow1)
            obtain ⟨j1, j2⟩ := HNX.out _ _ _ HW3.out HG.out
            go_roundw
            case rel => exact ⟨k + 1, by omega, by simp, by rw [HJT.out, HJS.out, List.map_append]; exact j1, (bstep HBA.out HBX.out).trans j2, (HAP.out.below (balloc _ _)).keptE HG.out (BlkK.apart HAP.out HROW.out (by decide))⟩
            case measure => simp [intOf]; omega
          · obtain ⟨r, rfl⟩ : ∃ r, m = r + 1 := ⟨m - 1, by omega⟩
            obtain ⟨q, hq, hql⟩ := last_at2 (l := joinF d [] (us.take k)) (m := r) (by have := HM.out; rwa [List.length_map] at this)
            have hqr := HPR.out k q (List.mem_of_getElem? hq)
            obtain ⟨q1, q2⟩ := q
            simp only at hqr
            have hqm : ((joinF d [] (us.take k)).map bareJ)[r]? = some (bareJ (q1, q2)) := by rw [List.getElem?_map, hq]; rfl
            obtain ⟨g, cap, z, hvg, hgw, y0, y1, y2, yf, _, _, _⟩ := HOA.out.at hqm
            simp only [bareJ] at y0 y1
            rw [HM.out] at hvg
            injection hvg with hvg1 _ hvg3
            subst hvg1 hvg3
            have e0 : ((r : Int) + 1 == 0) = false := by rw [beq_eq_false_iff_ne]; omega
            have i3 : (r : Int) < (r : Int) + 1 := by omega
            have HY0 := Lib.hid hqm
            have HY1 := Lib.hid y1
            have HYF := Lib.hid yf
            by_cases hf : d < ulo - q2
            · have tf : decide (d < ulo - q2) = true := by simpa using hf
              have HJS := Lib.hid (jstep_far (lo := ulo) (hi := uhi) hql hf)
              clear hq hql hqm y0 y2 yf
              have hw1 : IntKind.i64.wrap ((r : Int) + 1 - 1) = (r : Int) := by rw [show (r : Int) + 1 - 1 = (r : Int) by omega]; exact Go.IntWalk.i64_in _ (by omega)
              have hw2 : IntKind.i64.wrap (r : Int) = (r : Int) := Go.IntWalk.i64_in _ (by omega)
              have hw3 : IntKind.i64.wrap (ulo - q2) = ulo - q2 := Go.IntWalk.i64_in _ (by omega)
              go_wp2_with (fail)
              rw [HWA.out]
              have u0 := H60.out
              have u1 := H61.out
              go_quiet (fail)
              clear hw1 hw2 hw3 y1 u0 u1
              have HBX := Lib.hid (bdrewN WA nq)
              have u0 := cell_keep HBX.out H60.out
              have u1 := cell_keep HBX.out H61.out
              have hszw := HBA.out.size
              obtain ⟨vs, hrow, hnx⟩ := OwnPl.ready (u := bareJ (ulo, uhi)) (z := .slice none 0 0) (HOA.out.below HBX.out) (by exact hszw) i64l i64h (.inl (OwnRd.nil _ _))
              rw [HM.out] at hrow hnx
              have HROW := Lib.hid hrow
              have HNX := Lib.hid hnx
              have HAP := Lib.hid (HXA.out.below HBX.out)
              obtain ⟨WB, hWB⟩ : ∃ WB, WA.drewN nq = WB := ⟨_, rfl⟩
              rw [hWB] at u0 u1 HROW HNX HAP HBX ⊢
              have HNW := Lib.hid (show ∀ (j : Nat) (u : Value), [.int .i64 ulo, .int .i64 uhi, .slice none 0 0][j]? = some u → (WB.alloc (.cells #[.int .i64 ulo, .int .i64 uhi, .slice none 0 0] 36)).cell? ((⟨WB.heap.size, 0, none⟩ : Addr).add j) = some u from World.news_of_block (cs := #[.int .i64 ulo, .int .i64 uhi, .slice none 0 0]) (heap_fresh rfl))
              have hszB : w.heap.size ≤ WB.heap.size := Nat.le_trans hszw HBX.out.size
              clear hrow hnx hWB
              go_wp2_with (at_builtin; refine wpList_append_own _ rfl _ _ 31 rfl w.heap.size 36 i0 (.agg #[.int .i64 0, .int .i64 0, .slice none 0 0]) 3 40 Tryz.underlying31 hi0 hz0 hz1 hz2 rfl (by decide) _ _ _ rfl (HROW.out.alloc _) ⟨WB.heap.size, 0, none⟩ 1 1 [.int .i64 ulo, .int .i64 uhi, .slice none 0 0] rfl rfl HNW.out (by simp [Value.oneCell']) (by unfold maxLen; omega) (by omega) (by simp; omega) ?_; intro v1 w4 hown1 hgrow1 _; have HW3 := Lib.hid hown1; have HG := Lib.hid hgrow1; clear hown1 hgrow1)
              obtain ⟨j1, j2⟩ := HNX.out _ _ _ HW3.out HG.out
              go_roundw
              case rel => exact ⟨k + 1, by omega, by simp, by rw [HJT.out, HJS.out, List.map_append]; exact j1, (bstep HBA.out HBX.out).trans j2, (HAP.out.below (balloc _ _)).keptE HG.out (BlkK.apart HAP.out HROW.out (by decide))⟩
              case measure => simp [intOf]; omega
            · have tf : decide (d < ulo - q2) = false := by simpa using hf
              have HJS := Lib.hid (jstep_near (lo := ulo) (hi := uhi) hql hf)
              have HSL := Lib.hid (set_last (l := joinF d [] (us.take k)) (m := r) (by have := HM.out; rwa [List.length_map] at this) (q1, uhi))
              clear hq hql hqm y0 y2 yf
              have hw1 : IntKind.i64.wrap ((r : Int) + 1 - 1) = (r : Int) := by rw [show (r : Int) + 1 - 1 = (r : Int) by omega]; exact Go.IntWalk.i64_in _ (by omega)
              have hw2 : IntKind.i64.wrap (r : Int) = (r : Int) := Go.IntWalk.i64_in _ (by omega)
              have hw3 : IntKind.i64.wrap (ulo - q2) = ulo - q2 := Go.IntWalk.i64_in _ (by omega)
              go_wp2_with (fail)
              rw [HWA.out]
              have u0 := H60.out
              have u1 := H61.out
              go_quiet (fail)
              clear hw1 hw2 hw3 y1 u0 u1
              have HBX := Lib.hid (bdrewN WA nq)
              have HOB := Lib.hid (HOA.out.below HBX.out)
              have HAP := Lib.hid (HXA.out.below HBX.out)
              have u0 := cell_keep HBX.out H60.out
              have u1 := cell_keep HBX.out H61.out
              obtain ⟨WB, hWB⟩ : ∃ WB, WA.drewN nq = WB := ⟨_, rfl⟩
              rw [hWB] at u0 u1 HOB HAP HBX ⊢
              have hyc := cell_keep HBX.out HY1.out
              obtain ⟨g', cap', _, hvg, _, _, _, _, yf, _, _, _⟩ := HOB.out.at HY0.out
              injection hvg with hvg1 hvg2 hvg3
              clear hvg2 hvg3
              injection hvg1 with hvg1
              injection hvg1 with hvg1 _ _
              subst hvg1
              have hfr := yf (r * 3 + 1)
              have HST := Lib.hid (show OwnPl w (WB.setCell ⟨g, r * 3 + 1, none⟩ (.int .i64 uhi)) (.slice (some ⟨g, 0, none⟩) (r + 1) cc) (((joinF d [] (us.take k)).map bareJ).set r (bareJ (q1, uhi))) ∧ Below w.heap.size WB (WB.setCell ⟨g, r * 3 + 1, none⟩ (.int .i64 uhi)) from by
                have h1 : OwnPl w WB (.slice (some ⟨g, 0, none⟩) ((joinF d [] (us.take k)).map bareJ).length cc) ((joinF d [] (us.take k)).map bareJ) := HOB.out
                have := OwnPl.setHi h1 HY0.out i64h
                rwa [HM.out] at this)
              obtain ⟨vs, hrow⟩ := HOB.out.row
              have HNE := Lib.hid (BlkK.apart HAP.out hrow (by decide))
              clear hWB yf hrow
              go_wp2_with (fail)
              go_roundw
              case rel => exact ⟨k + 1, by omega, by simp, by rw [HJT.out, HJS.out, ← HSL.out, List.map_set]; exact HST.out.1, (bstep HBA.out HBX.out).trans HST.out.2, HAP.out.keptE (grown_set _ _ _ _) (by simpa [Value.ownBlock] using HNE.out)⟩
              case measure => simp [intOf]; omega
        · obtain rfl : k = n := by omega
          have HTK := Lib.hid (show us.take k = us from List.take_of_length_le (by rw [HLU.out]; exact Nat.le_refl _))
          rw [HTK.out] at HO HM
          obtain ⟨ps, hps⟩ : ∃ ps, joinF d [] us = ps := ⟨_, rfl⟩
          rw [hps] at HO HM HJR HJL
          have HL2 := Lib.hid (show ps.length = m by have := HM.out; rwa [List.length_map] at this)
          clear hps
          go_wp2_with (fail)
          go_loopw [68] (fun kv wr => ∃ t : Nat, t ≤ m ∧ kv = .int .i64 t ∧ OwnPl w wr (.slice aa m cc) ((ps.take t).map (plcJ x) ++ (ps.drop t).map bareJ) ∧ Below w.heap.size w wr ∧ BlkK wr w.heap.size #[.string (bs x.sec), .slice a1 n1 c1, .slice a2 n2 c2, .slice a3 n3 c3] 26) (fun kv _ => m - (intOf kv).toNat)
          case atStart => exact ⟨0, Nat.zero_le _, rfl, by
            have := HO.out
            rw [List.length_map, HL2.out] at this
            simpa using this, HB.out, HX.out⟩
          case round =>
            obtain ⟨wt, rfl⟩ : ∃ wt : World, wt = wr := ⟨_, rfl⟩
            obtain ⟨t, ht, rfl, ho2, hb2, hx2⟩ := hrel
            have HO2 := Lib.hid ho2
            have HB2 := Lib.hid hb2
            have HX2 := Lib.hid hx2
            clear ho2 hb2 hx2
            by_cases htm : t < m
            · obtain ⟨q, hq⟩ : ∃ q, ps[t]? = some q := ⟨_, List.getElem?_eq_getElem (by rw [HL2.out]; exact htm)⟩
              obtain ⟨r1, r2, r3⟩ := HJR.out q (List.mem_of_getElem? hq)
              obtain ⟨q1, q2⟩ := q
              simp only at r1 r2 r3
              obtain ⟨lo, rfl⟩ := Int.eq_ofNat_of_zero_le r1
              obtain ⟨hi, rfl⟩ := Int.eq_ofNat_of_zero_le (show 0 ≤ q2 by omega)
              have HPA := Lib.hid (part_at (f := plcJ x) (g := bareJ) hq)
              have HPS := Lib.hid (part_set (f := plcJ x) (g := bareJ) hq)
              have HLL := Lib.hid (show ((ps.take t).map (plcJ x) ++ (ps.drop t).map bareJ).length = m by rw [List.length_append, List.length_map, List.length_map, ← List.length_append, List.take_append_drop, HL2.out])
              obtain ⟨g, cap, z, hvg, hgw, y0, y1, y2, yf, _, _, yz⟩ := HO2.out.at HPA.out
              obtain ⟨az, nz, kz, rfl, _, _⟩ := yz.rdgs HB2.out ⟨by simp [bareJ], fun r hr => by simp [bareJ] at hr⟩
              rw [HLL.out] at hvg
              injection hvg with hvg1 _ hvg3
              subst hvg1 hvg3
              simp only [bareJ] at y0 y1
              have i1 : (t : Int) < (m : Int) := by omega
              clear hq yf yz
              have bA := balloc wt (.cells #[.int .i64 (lo : Int), .int .i64 (hi : Int), .slice az nz kz] 36)
              have HU0 := Lib.hid (BlkK.new wt #[.int .i64 (lo : Int), .int .i64 (hi : Int), .slice az nz kz] 36)
              have HBA := Lib.hid (bstep HB2.out bA)
              have HXA := Lib.hid (HX2.out.below bA)
              have HOA := Lib.hid (HO2.out.below bA)
              have u0 := HU0.out.cell (i := 0) rfl
              have u1 := HU0.out.cell (i := 1) rfl
              obtain ⟨k0, k1, k2, k3⟩ := HXA.out.coll
              clear bA
              go_wp2_with (fail)
              clear y0 y1 y2
              refine (HRS.out lo hi (by omega) (by omega) _ HBA.out).mono ?_
              rintro e W2 ⟨z2, rfl, hz, hb3⟩
              obtain ⟨a9, k9, rfl, hr9⟩ := hz.rdgs (HSM.out lo hi (by omega))
              obtain ⟨n9, hn9⟩ : ∃ n9, (rdsL x lo hi).length = n9 := ⟨_, rfl⟩
              rw [hn9] at hz ⊢
              have HOB := Lib.hid (HOA.out.below hb3)
              have HXB := Lib.hid (HXA.out.below hb3)
              have HBB := Lib.hid (bstep HBA.out hb3)
              obtain ⟨g', cap', z', hvg, _, _, _, hyc, yf, _, _, _⟩ := HOB.out.at HPA.out
              injection hvg with hvg1 hvg2 hvg3
              clear hvg2 hvg3
              injection hvg1 with hvg1
              injection hvg1 with hvg1 _ _
              subst hvg1
              have hfr := yf (t * 3 + 2)
              have HST := Lib.hid (show OwnPl w (W2.setCell ⟨g, t * 3 + 2, none⟩ (.slice a9 n9 k9)) (.slice (some ⟨g, 0, none⟩) m cc) (((ps.take t).map (plcJ x) ++ (ps.drop t).map bareJ).set t (plcJ x ((lo : Int), (hi : Int)))) ∧ Below w.heap.size W2 (W2.setCell ⟨g, t * 3 + 2, none⟩ (.slice a9 n9 k9)) from by
                have h1 : OwnPl w W2 (.slice (some ⟨g, 0, none⟩) ((ps.take t).map (plcJ x) ++ (ps.drop t).map bareJ).length cc) ((ps.take t).map (plcJ x) ++ (ps.drop t).map bareJ) := by rw [HLL.out]; exact HOB.out
                have := OwnPl.setRds h1 HPA.out (y := .slice a9 n9 k9) (rds := rdsL x lo hi) (.inl (hz.mono HBA.out.size))
                rwa [HLL.out] at this)
              obtain ⟨vs, hrow⟩ := HOB.out.row
              have HNE := Lib.hid (BlkK.apart HXB.out hrow (by decide))
              clear hb3 hz hr9 hn9 k0 k1 k2 k3 u0 u1 yf hrow
              go_wp2_with (fail)
              go_roundw
              case rel => exact ⟨t + 1, by omega, by simp, by rw [← HPS.out]; exact HST.out.1, HBB.out.trans HST.out.2, HXB.out.keptE (grown_set _ _ _ _) (by simpa [Value.ownBlock] using HNE.out)⟩
              case measure => simp [intOf]; omega
            · obtain rfl : t = m := by omega
              have HFI := Lib.hid (show (ps.take t).map (plcJ x) ++ (ps.drop t).map bareJ = joinL d x us by
                rw [HJL.out, List.take_of_length_le (by rw [HL2.out]; exact Nat.le_refl _), List.drop_of_length_le (by rw [HL2.out]; exact Nat.le_refl _)]; simp)
              rw [HFI.out] at HO2
              go_wp2_with (fail)
              go_ret2
              rw [HE.out]
              exact ⟨_, rfl, HO2.out, HB2.out⟩
  · have HE := Lib.hid (joinE_bad (d := d) hch)
    have dn : (chkU x us != 0) = true := by simpa using hch
    obtain ⟨cc, hcc⟩ : ∃ cc, chkU x us = cc := ⟨_, rfl⟩
    rw [hcc] at HCK dn HE
    unfold collV at HCK ⊢
    clear h hc1 hev hu hch hcc
    go_enter Tryz.func22, Tryz.ntmps22
    obtain ⟨q0, q1, q2, q3⟩ := HBX.out.coll
    go_wp2_with (fail)
    refine (HCK.out _ HB4.out).mono ?_
    rintro e w1 ⟨rfl, hb1⟩
    clear q0 q1 q2 q3
    go_wp2_with (fail)
    go_ret2
    rw [HE.out]
    exact ⟨_, rfl, OwnPl.nil _ _, bstep HB4.out hb1⟩
end Go.Proofs.YthfppkcefnmdoaaGreatDoor
