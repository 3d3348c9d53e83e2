/-
  States, Text: the reference's way; two tables are the same.
-/
import Derived.Test.YthfppkcefnmdoaaGreatDoorSt
import Derived.Test.YthfppkcefnmdoaaGreatDoorCr
import Derived.Test.YthfppkcefnmdoaaGreatDoorNh
namespace Go.Ap
open Go Go.RowKit
/-- ready for one more row -/
theorem OwnTb.ready {w w' : World} {base : Nat} {v u : Value} {xss : List (List Int)} {xs : List Int} (h : OwnTb w base v xss) (hbase : base ≤ w.heap.size) (hb : Below w.heap.size w w') (hu : OwnI 3 w' w.heap.size u xs) :
    ∃ vs, w'.ownsRow base 37 1 v xss.length vs ∧ ∀ w1 v' tmp, w1.ownsRow base 37 1 v' (xss.length + 1) (vs ++ [u]) → (w'.alloc tmp).grownBy w1 v.ownBlock → OwnTb w1 base v' (xss ++ [xs]) ∧ Below base w' w1 := by
  obtain ⟨vs, h1, h2, h3⟩ := h
  have h1' := owns_below h1 hb
  refine ⟨vs, h1', fun w1 v' tmp hown hg => ⟨⟨vs ++ [u], by simpa using hown, fun k ys hk => ?_, ?_⟩, ?_⟩⟩
  · have key : ∀ u' ys, OwnI 3 w' base u' ys → OwnI 3 w1 base u' ys := fun u' ys ho =>
      OwnI.kept (w := w'.alloc tmp) ⟨ho.1.alloc tmp, ho.2⟩ hg (owns_apart ho.1 h1' (by decide))
    have hl : vs.length = xss.length := by have := h1.1; omega
    rcases Nat.lt_or_ge k xss.length with hlt | hge
    · rw [List.getElem?_append_left hlt] at hk
      obtain ⟨u', hu', ho⟩ := h2 k ys hk
      exact ⟨u', by rw [List.getElem?_append_left (by omega)]; exact hu', key u' ys (ho.below hb)⟩
    · obtain ⟨hk', hke⟩ := List.getElem?_eq_some_iff.1 hk
      have hkl : k = xss.length := by simp at hk'; omega
      subst hkl
      have : ys = xs := by rw [← hke]; simp
      subst this
      exact ⟨u, by rw [List.getElem?_append_right (by omega)]; simp [hl], key u ys (hu.mono hbase)⟩
  · rw [List.pairwise_append]
    refine ⟨h3, List.pairwise_singleton _ _, fun a ha b hb' => ?_⟩
    rw [List.mem_singleton] at hb'
    subst hb'
    obtain ⟨k, hk⟩ := List.getElem?_of_mem ha
    have hl : vs.length = xss.length := by have := h1.1; omega
    have hkl : k < xss.length := by rw [← hl]; exact (List.getElem?_eq_some_iff.1 hk).1
    obtain ⟨u', hu', ho⟩ := h2 k _ (List.getElem?_eq_getElem hkl)
    rw [hk] at hu'
    cases hu'
    unfold Apart
    cases hab : a.ownBlock with
    | none => exact .inl rfl
    | some k1 =>
      refine .inr fun he => ?_
      have := owns_lt ho.1 k1 hab
      have := (hu.1.lt k1 he.symm).1
      omega
  · exact ((Below.refl base w').alloc (Nat.le_trans hbase hb.size) tmp).grown hg (by simp; have := hb.size; omega) (fun k hk => (h1'.lt k hk).1)
theorem OwnTb.empty (w : World) {base : Nat} (hw : base ≤ w.heap.size) : OwnTb (w.alloc (.cells #[] 37)) base (.slice (some ⟨w.heap.size, 0, none⟩) 0 0) [] :=
  ⟨[], World.ownsRow_made w #[] 0 hw (by simp [maxLen]) rfl, fun k x hx => by simp at hx, .nil⟩
theorem OwnI.pushed {w w1 : World} {base : Nat} {v v' : Value} {xs : List Int} {x : Int} {tmp : Obj} (h : OwnI 3 w base v xs) (hx : I64 x) (hb : base ≤ w.heap.size) (hown : w1.ownsRow base 3 1 v' (xs.length + 1) (xs.map (Value.int .i64) ++ [.int .i64 x])) (hg : (w.alloc tmp).grownBy w1 v.ownBlock) :
    OwnI 3 w1 base v' (xs ++ [x]) ∧ Below base w w1 := by
  refine ⟨⟨by simpa using hown, fun y hy => ?_⟩, ((Below.refl base w).alloc hb tmp).grown hg (by simp; omega) (fun k hk => (h.1.lt k hk).1)⟩
  rcases List.mem_append.1 hy with h1 | h1
  · exact h.2 y h1
  · rw [List.mem_singleton] at h1; subst h1; exact hx
theorem OwnI.empty (w : World) {base : Nat} (hw : base ≤ w.heap.size) : OwnI 3 (w.alloc (.cells #[] 3)) base (.slice (some ⟨w.heap.size, 0, none⟩) 0 0) [] :=
  ⟨World.ownsRow_made w #[] 0 hw (by simp [maxLen]) rfl, fun x hx => by cases hx⟩
theorem gap_eq (f : Int) : (f / 2 % 2 == 1) = isGap f := by
  unfold isGap
  by_cases h : f / 2 % 2 = 1
  · rw [decide_eq_true h, h]; rfl
  · rw [decide_eq_false h, beq_eq_false_iff_ne]; exact h
end Go.Ap
namespace Go.Proofs.YthfppkcefnmdoaaGreatDoor
open Go.RowKit Go.Ap Go.Shelf Go.Proofs

attribute [local go_sem] Oper.semAt_some bs_toList empty_toList bs_size bs_extract
set_option maxRecDepth 100000 in
set_option maxHeartbeats 8000000 in
theorem statesR (x : Coll) (a1 : Option Addr) (n1 c1 : Nat) (a2 : Option Addr) (n2 c2 : Nat) (a3 : Option Addr) (n3 c3 : Nat) (w : World) (h : CollM w a1 a2 a3 n1 n2 n3 x) (h32 : x.columns.length ≤ 1048576)
    (a : Option Addr) (n c : Nat) (us : List Plc) (hu : Plcs w a n us) (hn : n ≤ 1048576) :
    Calls Tryz.prog 35 #[collV x.sec a1 n1 c1 a2 n2 c2 a3 n3 c3, .slice a n c] w (GivesT w (statesE x us)) := by
  obtain ⟨i0, hi0, hz0, hz1, hz2⟩ := info_parts infoRow
  obtain ⟨i9, hi9, hy0, hy1, hy2⟩ := info_parts infoInt
  have hl1 := h.sigla.len
  have hl2 := h.tokens.len
  have hl3 := h.columns.len
  have hs2 := h.tokens.small
  have hs3 := h.columns.small
  have hlu := hu.len
  have hsu := hu.small
  have HCK := Lib.hid (fun W (hb : Below w.heap.size w W) => checkR x a1 n1 c1 a2 n2 c2 a3 n3 c3 W (h.mono (Nat.le_refl _) hb) h32 a n c us (Plcs.mono hu (Nat.le_refl _) hb))
  have HB4 := Lib.hid (balloc w (.cells #[.string (bs x.sec), .slice a1 n1 c1, .slice a2 n2 c2, .slice a3 n3 c3] 26))
  have HBX := Lib.hid (BlkK.new w #[.string (bs x.sec), .slice a1 n1 c1, .slice a2 n2 c2, .slice a3 n3 c3] 26)
  by_cases hch : chkU x us = 0
  · obtain ⟨hok, hri⟩ := chkU_zero hch
    have hv := val_of hok
    have hle := hv.le
    have h12 := hv.toks
    have HE := Lib.hid (statesE_in hch)
    have HU := Lib.hid (fun W (hb : Below w.heap.size w W) => (Plcs.mono hu (Nat.le_refl _) hb))
    have HRNG := Lib.hid (show ∀ u ∈ us, 0 ≤ u.lo ∧ u.lo < u.hi ∧ u.hi ≤ n3 ∧ u.rds = rdsL x u.lo.toNat u.hi.toNat from fun u hu => by
      unfold rightB at hri
      rw [Bool.and_eq_true] at hri
      have := okUs_lo hri.1 u hu
      exact ⟨this.2.1, this.2.2.1, by have := this.2.2.2.1; omega, of_decide_eq_true this.2.2.2.2⟩)
    have HWH := Lib.hid (fun s (hs : s < n1) lo hi => who_at (x := x) (lo := lo) (hi := hi) (s := s) (by omega))
    have HLI := Lib.hid (fun s (hs : s < n1) i (hi : i < n3) => state_lies h hv s (by omega) i (by omega))
    have HLU := Lib.hid hlu
    have HL1 := Lib.hid hl1
    have HSL := Lib.hid (show statesL x us = (List.range n1).map fun s => us.map (stateU x s) by unfold statesL; rw [hl1])
    rw [hch] at HCK
    unfold collV at HCK ⊢
    clear h hok hch hri hv hu hlu
    go_enter Tryz.func35, Tryz.ntmps35
    obtain ⟨k0, k1, k2, k3⟩ := HBX.out.coll
    go_wp2_with (fail)
    refine (HCK.out _ HB4.out).mono ?_
    rintro e w1 ⟨rfl, hb1⟩
    clear k0 k1 k2 k3
    have HB1 := Lib.hid (bstep HB4.out hb1)
    have HX1 := Lib.hid (HBX.out.below hb1)
    clear hb1
    have hbx1 := HX1.out.lt
    have HT0 := Lib.hid (OwnTb.empty w1 HB1.out.size)
    have HB2 := Lib.hid (bstep HB1.out (balloc w1 (.cells #[] 37)))
    have HX2 := Lib.hid (HX1.out.below (balloc w1 (.cells #[] 37)))
    go_wp2_with (fail)
    go_loopw [7, 8] (fun ov sv wr => ∃ s : Nat, s ≤ n1 ∧ sv = .int .i64 s ∧ OwnTb wr w.heap.size ov ((List.range s).map fun j => us.map (stateU x j)) ∧ Below w.heap.size w wr ∧ BlkK wr w.heap.size #[.string (bs x.sec), .slice a1 n1 c1, .slice a2 n2 c2, .slice a3 n3 c3] 26) (fun _ sv _ => n1 - (intOf sv).toNat)
    case atStart => exact ⟨0, Nat.zero_le _, rfl, HT0.out, HB2.out, HX2.out⟩
    case round =>
      obtain ⟨ws, rfl⟩ : ∃ ws : World, ws = wr := ⟨_, rfl⟩
      obtain ⟨s, hs, rfl, ht, hb, hx⟩ := hrel
      have HT := Lib.hid ht
      have HB := Lib.hid hb
      have HX := Lib.hid hx
      clear ht hb hx
      obtain ⟨k0, k1, k2, k3⟩ := HX.out.coll
      by_cases hsn : s < n1
      · have HI0 := Lib.hid (OwnI.empty ws (base := ws.heap.size) (Nat.le_refl _))
        have HBI := Lib.hid (balloc ws (.cells #[] 3))
        go_wp2_with (fail)
        clear k0 k1 k2 k3
        go_loopw [9, 10] (fun rv kv wr => ∃ k : Nat, k ≤ n ∧ kv = .int .i64 k ∧ OwnI 3 wr ws.heap.size rv ((us.take k).map (stateU x s)) ∧ Below ws.heap.size ws wr) (fun _ kv _ => n - (intOf kv).toNat)
        case atStart => exact ⟨0, Nat.zero_le _, rfl, HI0.out, HBI.out⟩
        case round =>
          obtain ⟨wk, rfl⟩ : ∃ wk : World, wk = wr := ⟨_, rfl⟩
          obtain ⟨k, hk, rfl, ho, hb⟩ := hrel
          have HO := Lib.hid ho
          have HBK := Lib.hid hb
          have HBW := Lib.hid (bstep HB.out hb)
          have HXK := Lib.hid (HX.out.below hb)
          clear ho hb
          by_cases hkn : k < n
          · obtain ⟨u, bb, oo, hu, rfl, ⟨ar, nr, kr, g0, g1, g2, hRd, _, _, _⟩⟩ := (HU.out wk HBW.out).at hkn
            obtain ⟨r1, r2, r3, r4⟩ := HRNG.out u (List.mem_of_getElem? hu)
            have HUK := Lib.hid hu
            obtain ⟨ulo, uhi, rds⟩ := u
            simp only at g0 g1 hRd r1 r2 r3 r4
            obtain ⟨lo, rfl⟩ := Int.eq_ofNat_of_zero_le r1
            obtain ⟨hi, rfl⟩ := Int.eq_ofNat_of_zero_le (show 0 ≤ uhi by omega)
            have hrd : rds = rdsL x lo hi := r4
            subst hrd
            obtain ⟨i, r, hwh, hri, _, hrw⟩ := HWH.out s hsn lo hi
            have hir := (List.getElem?_eq_some_iff.1 hri).1
            rw [hRd.len] at hir
            have hrs := hRd.small
            have HRU := Lib.hid (fun W (hb : Below wk.heap.size wk W) => readR ⟨(lo : Int), (hi : Int), rdsL x lo hi⟩ ar nr kr (s : Int) W (Rdgs.mono hRd (Nat.le_refl _) hb))
            have hwe : whoE (rdsL x lo hi) (s : Int) = (((i : Nat) : Int), 0) := by rw [whoE, hwh]
            simp only [hwe] at HRU
            have HST := Lib.hid (show stateU x s ⟨(lo : Int), (hi : Int), rdsL x lo hi⟩ = stN (gapU x s lo hi) (i : Int) by rw [stateU_eq, hwe])
            have HTK := Lib.hid (show (us.take (k + 1)).map (stateU x s) = (us.take k).map (stateU x s) ++ [stN (gapU x s lo hi) (i : Int)] by
              rw [List.take_add_one, HUK.out, ← HST.out]; simp)
            have i1 : (k : Int) < (n : Int) := by omega
            have HG0 := Lib.hid g0
            have HG1 := Lib.hid g1
            clear hu hwh hri hrw hRd hwe r4
            go_wp2_with (fail)
            refine (HRU.out _ (Below.refl _ _)).mono ?_
            rintro e W1 ⟨rfl, hb1⟩
            have HBB := Lib.hid (bstep HBK.out hb1)
            have HX3 := Lib.hid (HXK.out.below hb1)
            have HO3 := Lib.hid (HO.out.below hb1)
            have HBW3 := Lib.hid (bstep HBW.out hb1)
            have HG1' := Lib.hid (cell_keep hb1 HG1.out)
            have f0 := cell_keep hb1 HG0.out
            clear hb1 g0 g1 g2
            go_wp2_with (fail)
            clear f0
            go_loopw [11, 13] (fun nv iv wr => ∃ q : Nat, lo ≤ q ∧ q ≤ hi ∧ iv = .int .i64 q ∧ nv = .int .i64 (stN (gapU x s lo q) (i : Int)) ∧ W1 = wr) (fun _ iv _ => hi - (intOf iv).toNat)
            case atStart => exact ⟨lo, Nat.le_refl _, by omega, rfl, by rw [gapU_zero]; rfl, rfl⟩
            case round =>
              obtain ⟨q, hlq, hqh, rfl, rfl, rfl⟩ := hrel
              have u1 := HG1'.out
              obtain ⟨k0, k1, k2, k3⟩ := HX3.out.coll
              by_cases hqlt : q < hi
              · have HGS := Lib.hid (gapU_succ (x := x) (s := s) hlq)
                obtain ⟨b3, o3, bc, oc, nc, cc, y, rfl, f1, f2, f3, f4, hor⟩ := HLI.out s hsn q (by omega)
                have h1 := cell_keep HBW3.out f1
                have h4 := cell_keep HBW3.out f4
                have i2 : (q : Int) < (n3 : Int) := by omega
                have i3 : (s : Int) < (nc : Int) := by omega
                have i4 : (q : Int) < (hi : Int) := by omega
                rcases hor with ⟨rfl, _, hgp⟩ | ⟨m, b5, o5, n5, c5, b6, o6, t, rfl, rfl, p1, p2, p3, hT, fl0, fl1, _, hgp⟩
                · rw [hgp, Bool.or_false] at HGS
                  clear f1 f4 hgp
                  go_wp2_with (fail)
                  go_roundw
                  case rel => exact ⟨q + 1, by omega, by omega, by simp, by rw [HGS.out], by first | rfl | trivial⟩
                  case measure => simp [intOf]; omega
                · have h5 := cell_keep HBW3.out p1
                  have h6 := cell_keep HBW3.out hT.5
                  have i5 : (s : Int) < (n2 : Int) := by omega
                  have i6 : (m : Int) < (n5 : Int) := by omega
                  obtain ⟨fl, hfl⟩ : ∃ fl, t.flags = fl := ⟨_, rfl⟩
                  rw [hfl] at hgp fl0 fl1 h6
                  cases hig : isGap fl
                  all_goals
                    rw [hgp, hig] at HGS
                    have b2 := (gap_eq fl).trans hig
                    clear f1 f4 hgp p1 hT hfl hig
                  · rw [Bool.or_false] at HGS
                    go_wp2_with (fail)
                    go_roundw
                    case rel => exact ⟨q + 1, by omega, by omega, by simp, by rw [HGS.out], by first | rfl | trivial⟩
                    case measure => simp [intOf]; omega
                  · rw [Bool.or_true] at HGS
                    go_wp2_with (fail)
                    go_roundw
                    case rel => exact ⟨q + 1, by omega, by omega, by simp, by rw [HGS.out, stN_true], by first | rfl | trivial⟩
                    case measure => simp [intOf]; omega
              · obtain rfl : q = hi := by omega
                have hsv0 := stN_bd (gapU x s lo q) (i := i) (by omega)
                obtain ⟨sv, hsv⟩ : ∃ sv, stN (gapU x s lo q) (i : Int) = sv := ⟨_, rfl⟩
                rw [hsv] at HTK hsv0 ⊢
                obtain ⟨rw', hrw'⟩ : ∃ r, (us.take k).map (stateU x s) = r := ⟨_, rfl⟩
                rw [hrw'] at HTK HO3
                obtain ⟨m, hm⟩ : ∃ m, rw'.length = m := ⟨_, rfl⟩
                have hmk : m ≤ k := by rw [← hm, ← hrw', List.length_map]; exact List.length_take_le _ _
                have HM := Lib.hid hm
                have HZ2 := Lib.hid (show W1.ownsRow ws.heap.size 3 1 _ m (rw'.map (Value.int .i64)) by have := HO3.out.1; rwa [hm] at this)
                have hszw := HBB.out.size
                clear hsv hrw' hm k0 k1 k2 k3
                go_wp2_with (at_builtin; refine wpList_append_own _ rfl _ _ 37 rfl ws.heap.size 3 i9 (.int .i64 0) 1 8 Tryz.underlying37 hi9 hy0 hy1 hy2 rfl (by decide) _ _ _ rfl (HZ2.out.alloc _) ⟨W1.heap.size, 0, none⟩ 1 1 [.int .i64 sv] rfl rfl (cell_one_new _ _ _) (by simp [Value.oneCell']) (by unfold maxLen; omega) (by omega) (by simp; omega) ?_; intro v1 w4 hown1 hgrow1 _; have HW3 := Lib.hid hown1; have HG := Lib.hid hgrow1; clear hown1 hgrow1)
                obtain ⟨j1, j2⟩ := OwnI.pushed (x := sv) HO3.out hsv0 hszw (by rw [HM.out]; exact HW3.out) HG.out
                go_roundw
                case rel => exact ⟨k + 1, by omega, by simp, by rw [HTK.out]; exact j1, HBB.out.trans j2⟩
                case measure => simp [intOf]; omega
          · obtain rfl : k = n := by omega
            have HTF := Lib.hid (show us.take k = us from List.take_of_length_le (by rw [HLU.out]; exact Nat.le_refl _))
            rw [HTF.out] at HO
            have hrl : ∀ y : Nat, (us.map (stateU x y)).length = k := fun y => by rw [List.length_map, HLU.out]
            obtain ⟨ra, rc, hrv, _⟩ := HO.out.ints (by rw [hrl]; omega)
            subst hrv
            rw [hrl s] at HO ⊢
            obtain ⟨vs, hrow, hnx⟩ := OwnTb.ready HT.out HB.out.size HBK.out HO.out
            obtain ⟨ms, hms⟩ : ∃ m, ((List.range s).map fun j => us.map (stateU x j)).length = m := ⟨_, rfl⟩
            rw [hms] at hrow hnx
            have hms' : ms = s := by rw [← hms, List.length_map, List.length_range]
            have HROW := Lib.hid hrow
            have HNX := Lib.hid hnx
            have HSU := Lib.hid (show (List.range (s + 1)).map (fun j => us.map (stateU x j)) = ((List.range s).map fun j => us.map (stateU x j)) ++ [us.map (stateU x s)] by rw [List.range_succ, List.map_append]; rfl)
            have hszw := HBW.out.size
            clear hrow hnx hms hrl
            go_wp2_with (at_builtin; refine wpList_append_own _ rfl _ _ 24 rfl w.heap.size 37 i0 (.slice none 0 0) 1 24 Tryz.underlying24 hi0 hz0 hz1 hz2 rfl (by decide) _ _ _ rfl (HROW.out.alloc _) ⟨wk.heap.size, 0, none⟩ 1 1 [.slice ra k rc] rfl rfl (cell_one_new _ _ _) (by simp [Value.oneCell']) (by unfold maxLen; omega) (by omega) (by simp; omega) ?_; intro v1 w4 hown1 hgrow1 _; have HW3 := Lib.hid hown1; have HG := Lib.hid hgrow1; clear hown1 hgrow1)
            obtain ⟨j1, j2⟩ := HNX.out _ _ _ HW3.out HG.out
            go_roundw
            case rel => exact ⟨s + 1, by omega, by simp, by rw [HSU.out]; exact j1, HBW.out.trans j2, (HXK.out.below (balloc _ _)).keptE HG.out (BlkK.apart HXK.out HROW.out (by decide))⟩
            case measure => simp [intOf]; omega
      · obtain rfl : s = n1 := by omega
        go_wp2_with (fail)
        go_ret2
        rw [HE.out]
        exact ⟨_, rfl, by rw [HSL.out]; exact HT.out, HB.out⟩
  · have HE := Lib.hid (statesE_bad hch)
    have dn : (chkU x us != 0) = true := by simpa using hch
    obtain ⟨cc, hcc⟩ : ∃ cc, chkU x us = cc := ⟨_, rfl⟩
    rw [hcc] at HCK dn HE
    unfold collV at HCK ⊢
    clear h hu hch hcc
    go_enter Tryz.func35, Tryz.ntmps35
    obtain ⟨q0, q1, q2, q3⟩ := HBX.out.coll
    go_wp2_with (fail)
    refine (HCK.out _ HB4.out).mono ?_
    rintro e w1 ⟨rfl, hb1⟩
    clear q0 q1 q2 q3
    have HB1 := Lib.hid (bstep HB4.out hb1)
    go_wp2_with (fail)
    go_ret2
    rw [HE.out]
    exact ⟨_, rfl, OwnTb.empty _ HB1.out.size, bstep HB1.out (balloc _ _)⟩
end Go.Proofs.YthfppkcefnmdoaaGreatDoor
