/-
  VariationStates: the law.
-/
import Derived.Test.YthfppkcefnmdoaaGreatDoorL5
import Derived.Test.YthfppkcefnmdoaaGreatDoorSt
import Derived.Test.YthfppkcefnmdoaaGreatDoorTy
import Derived.Deep.QuietTactic
import Derived.BigQuiet
import Derived.Deep.QuietTactic
import Derived.BigQuiet
import Derived.Deep.QuietTactic
import Derived.BigQuiet
import Derived.Deep.QuietTactic
import Derived.BigQuiet
namespace Go.Proofs.YthfppkcefnmdoaaGreatDoor
open Go.RowKit Go.Ap Go.Shelf Go.Proofs

attribute [local go_sem] Oper.semAt_some bs_toList empty_toList bs_size bs_extract
set_option maxRecDepth 100000 in
set_option maxHeartbeats 4000000 in
theorem wordsC (x : Coll) (a1 : Option Addr) (n1 c1 : Nat) (a2 : Option Addr) (n2 c2 : Nat) (a3 : Option Addr) (n3 c3 : Nat) (w w0 : World) (h : CollM w0 a1 a2 a3 n1 n2 n3 x) (hb0 : Below w0.heap.size w0 w) (hv : Val x) (Bx : Nat) (hbx : BoxC w Bx x.sec a1 n1 c1 a2 n2 c2 a3 n3 c3) (h32 : x.columns.length ≤ 1048576)
    (s : Nat) (hs : s < x.sigla.length) (lo hi : Nat) (hlh : lo ≤ hi) (hh : hi ≤ x.columns.length) (ar : Option Addr) (nr kr : Nat) :
    Calls Tryz.prog 27 #[.int .i64 s, .agg #[.int .i64 lo, .int .i64 hi, .slice ar nr kr], .pointer (some ⟨Bx, 0, none⟩)] w fun e w' => ∃ aw nw kw, e = .returned (.tuple #[.slice aw nw kw, .bool (gapU x s lo hi)]) ∧ StrsL w' aw nw (readL x s lo hi) ∧ Below w.heap.size w w' := by
  obtain ⟨i0, hi0, hz0, hz1, hz2⟩ := info_parts infoStr
  have hl1 := h.sigla.len
  have hl2 := h.tokens.len
  have hl3 := h.columns.len
  have h12 := hv.toks
  have hs2 := h.tokens.small
  have hs3 := h.columns.small
  have HLI := Lib.hid (fun i (hi : i < x.columns.length) => state_lies h hv s hs i hi)
  have HB0 := Lib.hid hb0
  have HBX := Lib.hid hbx
  have HU := Lib.hid (BlkK.new w #[.int .i64 (lo : Int), .int .i64 (hi : Int), .slice ar nr kr] 36)
  have bA := balloc w (.cells #[.int .i64 (lo : Int), .int .i64 (hi : Int), .slice ar nr kr] 36)
  have HBA := Lib.hid bA
  have hbl := World.block_lt_of_cell? w _ hbx.k0
  clear h hv hb0 hbx bA
  go_enter Tryz.func27, Tryz.ntmps27
  have u0 := HU.out.cell (i := 0) rfl
  go_wp2_with (fail)
  clear u0
  obtain ⟨W0, hW0⟩ : ∃ W0, w.alloc (.cells #[.int .i64 (lo : Int), .int .i64 (hi : Int), .slice ar nr kr] 36) = W0 := ⟨_, rfl⟩
  rw [hW0] at HU HBA ⊢
  clear hW0
  go_loopw [7, 8, 9] (fun ov gv kv wr => ∃ q : Nat, lo ≤ q ∧ q ≤ hi ∧ kv = .int .i64 q ∧ gv = .bool (gapU x s lo q) ∧ OwnS wr W0.heap.size ov (readL x s lo q) ∧ Below W0.heap.size W0 wr) (fun _ _ kv _ => hi - (intOf kv).toNat)
  case atStart => exact ⟨lo, Nat.le_refl _, hlh, rfl, by rw [gapU_zero], by rw [readL_zero]; exact OwnS.nil _ _, Below.refl _ _⟩
  case round =>
    obtain ⟨wq, rfl⟩ : ∃ wq : World, wq = wr := ⟨_, rfl⟩
    obtain ⟨q, hlq, hqh, rfl, rfl, ho, hb⟩ := hrel
    have HO := Lib.hid ho
    have HB := Lib.hid hb
    have HBW := Lib.hid (bstep HBA.out hb)
    have HXQ := Lib.hid (HBX.out.below HBW.out)
    have HUQ := Lib.hid (HU.out.below hb)
    have u1 := HUQ.out.cell (i := 1) rfl
    have hszq := hb.size
    clear ho hb
    by_cases hqlt : q < hi
    · obtain ⟨k0, k1, k2, k3⟩ := HXQ.out
      have HS := Lib.hid (readL_succ (x := x) (s := s) hlq)
      have HGS := Lib.hid (gapU_succ (x := x) (s := s) hlq)
      have hrl := readL_len x s lo q
      obtain ⟨gq, hgq⟩ : ∃ gq, gapU x s lo q = gq := ⟨_, rfl⟩
      rw [hgq] at HGS ⊢
      obtain ⟨b3, o3, bc, oc, nc, cc, y, rfl, f1, f2, f3, f4, hor⟩ := HLI.out q (by omega)
      have h1 := cell_keep HB0.out f1
      have h4 := cell_keep HB0.out f4
      have i2 : (q : Int) < (n3 : Int) := by omega
      have i3 : (s : Int) < (nc : Int) := by omega
      have i4 : (q : Int) < (hi : Int) := by omega
      have h1' := cell_keep HBW.out h1
      have h4' := cell_keep HBW.out h4
      rcases hor with ⟨rfl, hn, hgp⟩ | ⟨m, b5, o5, n5, c5, b6, o6, t, rfl, rfl, p1, p2, p3, hT, fl0, fl1, hn, hgp⟩
      · rw [hgp, Bool.or_false] at HGS
        rw [hn] at HS
        clear f1 f4 h1 h4 hgp hn hgq
        go_wp2_with (fail)
        go_roundw
        case rel => exact ⟨q + 1, by omega, by omega, by simp, by rw [HGS.out], by rw [HS.out]; simpa using HO.out, HB.out⟩
        case measure => simp [intOf]; omega
      · rw [hgp] at HGS
        rw [hn] at HS
        obtain ⟨ql, hql⟩ : ∃ ql, (readL x s lo q).length = ql := ⟨_, rfl⟩
        rw [hql] at hrl
        have HM := Lib.hid hql
        have HOW0 := Lib.hid (show wq.ownsRow W0.heap.size 9 1 _ ql ((readL x s lo q).map sv) by have := HO.out; unfold OwnS at this; rwa [hql] at this)
        have h5 := cell_keep HBW.out (cell_keep HB0.out p1)
        have t0 := cell_keep HBW.out (cell_keep HB0.out hT.1)
        have t1 := cell_keep HBW.out (cell_keep HB0.out hT.2)
        have t2 := cell_keep HBW.out (cell_keep HB0.out hT.3)
        have t3 := cell_keep HBW.out (cell_keep HB0.out hT.4)
        have t4 := cell_keep HBW.out (cell_keep HB0.out hT.5)
        have t5 := cell_keep HBW.out (cell_keep HB0.out hT.6)
        have i5 : (s : Int) < (n2 : Int) := by omega
        have i6 : (m : Int) < (n5 : Int) := by omega
        have bT := balloc wq (.cells #[.string (bs t.text), .string (bs t.norm), .string (bs t.page), .int .i64 t.line, .int .i64 t.flags, .string (bs t.name)] 44)
        have HKT := Lib.hid (BlkK.new wq #[.string (bs t.text), .string (bs t.norm), .string (bs t.page), .int .i64 t.line, .int .i64 t.flags, .string (bs t.name)] 44)
        have HBT := Lib.hid bT
        have HOW := Lib.hid (show (wq.alloc (.cells #[.string (bs t.text), .string (bs t.norm), .string (bs t.page), .int .i64 t.line, .int .i64 t.flags, .string (bs t.name)] 44)).ownsRow W0.heap.size 9 1 _ ql ((readL x s lo q).map sv) from owns_below HOW0.out bT)
        have HOS := Lib.hid (HO.out.below bT)
        have HNW := Lib.hid (show ∀ (j : Nat) (u : Value), [.string (bs t.text)][j]? = some u → ((wq.alloc (.cells #[.string (bs t.text), .string (bs t.norm), .string (bs t.page), .int .i64 t.line, .int .i64 t.flags, .string (bs t.name)] 44)).alloc (.cells #[.string (bs t.text)] 9)).cell? ((⟨wq.heap.size + 1, 0, none⟩ : Addr).add j) = some u from World.news_of_block (cs := #[.string (bs t.text)]) (heap_fresh (by simp)))
        clear f1 f4 h1 h4 hgp hn p1 hT bT hql
        cases hig : isGap t.flags
        all_goals
          have b2 : (bits BinOp.and IntKind.i64 t.flags 2 != 0) = isGap t.flags := by rw [bne, bits2 fl0 fl1]; simp
          rw [hig] at b2 HGS
          clear fl0 fl1 hig
          cases gq
          all_goals
            go_wp2_with (at_builtin; refine wpList_append_own _ rfl _ _ 22 rfl W0.heap.size 9 i0 (.string { data := #[] }) 1 16 Tryz.underlying22 hi0 hz0 hz1 hz2 rfl (by decide) _ _ _ rfl (HOW.out.alloc _) ⟨wq.heap.size + 1, 0, none⟩ 1 1 [.string (bs t.text)] rfl rfl HNW.out (by simp [Value.oneCell']) (by unfold maxLen; omega) (by omega) (by simp; omega) ?_; intro v1 w4 hown1 hgrow1 _; have HO3 := Lib.hid hown1; have HG := Lib.hid hgrow1; have HK4 := Lib.hid ((HKT.out.below (balloc _ _)).keptE hgrow1 (BlkK.apart HKT.out HOW.out (by decide))); have v4 := HK4.out.cell (i := 4) rfl; clear hown1 hgrow1)
            obtain ⟨j1, j2⟩ := OwnS.pushed (x := t.text) HOS.out (by simp; omega) (by rw [HM.out]; exact HO3.out) HG.out
            go_roundw
            case rel => exact ⟨q + 1, by omega, by omega, by simp, by rw [HGS.out]; rfl, by rw [HS.out]; exact j1, (bstep HB.out HBT.out).trans j2⟩
            case measure => simp [intOf]; omega
    · obtain rfl : q = hi := by omega
      have hrl := readL_len x s lo q
      obtain ⟨aw, kw, rfl, hSw⟩ := HO.out.strs (by omega)
      have HSW := Lib.hid hSw
      obtain ⟨mw, hmw⟩ : ∃ mw, (readL x s lo q).length = mw := ⟨_, rfl⟩
      rw [hmw] at HSW ⊢
      clear hSw hmw
      go_wp2_with (fail)
      go_ret2
      exact ⟨_, _, _, rfl, HSW.out, HBW.out⟩
theorem run_same {x : Coll} {lo hi s t : Nat} (hs : s < x.sigla.length) (ht : t < x.sigla.length) (hgs : gapU x s lo hi = false) (hgt : gapU x t lo hi = false) :
    (stateU x s ⟨lo, hi, rdsL x lo hi⟩ == stateU x t ⟨lo, hi, rdsL x lo hi⟩) = decide (readL x s lo hi = readL x t lo hi) := by
  obtain ⟨i, r, h1, h2, _, h4⟩ := who_at (x := x) (lo := lo) (hi := hi) hs
  obtain ⟨j, q, g1, g2, _, g4⟩ := who_at (x := x) (lo := lo) (hi := hi) ht
  rw [stateU_eq, stateU_eq, hgs, hgt, stN_false, stN_false, whoE, whoE, h1, g1]
  simp only
  by_cases hij : i = j
  · subst hij
    rw [h2] at g2
    cases g2
    rw [← h4, ← g4]
    simp
  · have hne : r.1 ≠ q.1 := by
      have h := rdsN_at x lo hi x.sigla.length
      obtain ⟨l1, e1⟩ := List.getElem?_eq_some_iff.1 h2
      obtain ⟨l2, e2⟩ := List.getElem?_eq_some_iff.1 g2
      rcases Nat.lt_or_ge i j with hlt | hge
      · have := (List.pairwise_iff_getElem.1 h.neq) i j l1 l2 hlt
        rw [← e1, ← e2]
        exact this
      · have := (List.pairwise_iff_getElem.1 h.neq) j i l2 l1 (by omega)
        rw [← e1, ← e2]
        exact fun e => this e.symm
    rw [h4, g4] at hne
    rw [decide_eq_false hne, beq_eq_false_iff_ne]
    omega
theorem state_rng {x : Coll} {lo hi s : Nat} (hs : s < x.sigla.length) : (gapU x s lo hi = true ∧ stateU x s ⟨lo, hi, rdsL x lo hi⟩ = -1) ∨ (gapU x s lo hi = false ∧ ∃ i : Nat, i < (rdsL x lo hi).length ∧ stateU x s ⟨lo, hi, rdsL x lo hi⟩ = i) := by
  rw [stateU_eq]
  cases hg : gapU x s lo hi
  · obtain ⟨i, r, h1, h2, _, h4⟩ := who_at (x := x) (lo := lo) (hi := hi) hs
    exact .inr ⟨rfl, i, (List.getElem?_eq_some_iff.1 h2).1, by rw [stN_false, whoE, h1]⟩
  · exact .inl ⟨rfl, stN_true _⟩
set_option maxRecDepth 100000 in
set_option maxHeartbeats 16000000 in
theorem law6 (x : Coll) (a1 : Option Addr) (n1 c1 : Nat) (a2 : Option Addr) (n2 c2 : Nat) (a3 : Option Addr) (n3 c3 : Nat) (w : World) (h : CollM w a1 a2 a3 n1 n2 n3 x) (hc1 : n1 ≤ c1) (hev : EV w) :
    Calls Tryz.prog 6 #[.agg #[.string (bs x.sec), .slice a1 n1 c1, .slice a2 n2 c2, .slice a3 n3 c3]] w fun e w' => e = .returned (.bool true) ∧ Below w.heap.size w w' := by
  have hl1 := h.sigla.len
  have hl3 := h.columns.len
  have hs3 := h.columns.small
  have HGR := Lib.hid (fun W (hb : Below w.heap.size w W) => greatR x a1 n1 c1 a2 n2 c2 a3 n3 c3 W (h.mono (Nat.le_refl _) hb))
  have HCK := Lib.hid (fun W (hb : Below w.heap.size w W) => collR x a1 n1 c1 a2 n2 c2 a3 n3 c3 W (h.mono (Nat.le_refl _) hb))
  have HAW := Lib.hid (fun W (hb : Below w.heap.size w W) => awakeP W (hev.mono (Nat.le_refl _) hb))
  have eg := enters_of Tryz.func27 (by kernel_rfl) rfl
  have HB4 := Lib.hid (balloc w (.cells #[.string (bs x.sec), .slice a1 n1 c1, .slice a2 n2 c2, .slice a3 n3 c3] 26))
  have HBX := Lib.hid (BoxC.new w x.sec a1 n1 c1 a2 n2 c2 a3 n3 c3)
  unfold collV at HGR HCK
  by_cases hok : collC x = 0
  · have hv := val_of hok
    have hle := hv.le
    have HUN := Lib.hid (fun W (hb : Below w.heap.size w W) (h24 : x.columns.length ≤ 1048576) => callsIn_wide.1 (unitsP x a1 n1 c1 a2 n2 c2 a3 n3 c3 W (h.mono (Nat.le_refl _) hb) hc1 (hev.mono (Nat.le_refl _) hb) h24 hok))
    have h12 := hv.toks
    have HST := Lib.hid (fun W (hb : Below w.heap.size w W) (h24 : x.columns.length ≤ 1048576) a n c us (hu : Plcs W a n us) (hn : n ≤ 1048576) (hr : rightB x us = true) => show Calls Tryz.prog 26 #[collV x.sec a1 n1 c1 a2 n2 c2 a3 n3 c3, .slice a n c] W fun e w' => ∃ aj kj, e = .returned (.tuple #[.slice aj n1 kj, .int .i64 0]) ∧ Rows2 w' aj n1 (statesL x us) ∧ Below W.heap.size W w' from by
      have := statesP x a1 n1 c1 a2 n2 c2 a3 n3 c3 W (h.mono (Nat.le_refl _) hb) hc1 (hev.mono (Nat.le_refl _) hb) h24 a n c us hu hn
      rw [statesE_in (by rw [chkU, if_neg (by rw [hok]; simp), if_pos hr])] at this
      refine this.mono fun e w' ⟨v, he, ho, hb'⟩ => ?_
      have ho : OwnTb w' W.heap.size v (statesL x us) := ho
      have hll : (statesL x us).length = n1 := by unfold statesL; rw [List.length_map, List.length_range, hl1]
      obtain ⟨aj, kj, rfl, hp⟩ := ho.rows (by omega) (fun xs hxs => by
        obtain ⟨s, _, rfl⟩ := List.mem_map.1 hxs
        rw [List.length_map]
        have := hu.len
        omega)
      rw [hll] at hp he
      exact ⟨aj, kj, he, hp, hb'⟩)
    have HWC := Lib.hid (fun W (hb : Below w.heap.size w W) (h24 : x.columns.length ≤ 1048576) (hbx : BoxC W w.heap.size x.sec a1 n1 c1 a2 n2 c2 a3 n3 c3) s (hs : s < n1) (lo hi : Nat) (hlh : lo ≤ hi) (hh : hi ≤ n3) ar nr kr => wordsC x a1 n1 c1 a2 n2 c2 a3 n3 c3 W w h hb hv w.heap.size hbx h24 s (by omega) lo hi hlh (by omega) ar nr kr)
    rw [hok] at HCK
    unfold collV at HUN HST
    clear h hv hok hev
    go_enter Tryz.func6, Tryz.ntmps6
    go_wp2_with (fail)
    refine (HGR.out _ HB4.out).mono ?_
    rintro e wa ⟨⟨b, rfl, hb24⟩, hba⟩
    have HBA := Lib.hid (bstep HB4.out hba)
    have HBXa := Lib.hid (HBX.out.below hba)
    clear hba
    cases b
    · have h24 := hb24 rfl
      obtain ⟨k0, k1, k2, k3⟩ := HBXa.out
      clear hb24
      go_wp2_with (fail)
      refine (HCK.out _ HBA.out).mono ?_
      rintro e wb ⟨rfl, hbb⟩
      have HBB := Lib.hid (bstep HBA.out hbb)
      have HBXb := Lib.hid (HBXa.out.below hbb)
      clear hbb k0 k1 k2 k3
      obtain ⟨k0, k1, k2, k3⟩ := HBXb.out
      go_wp2_with (fail)
      refine (HUN.out _ HBB.out (by omega)).mono ?_
      rintro e w5 ⟨v, rfl, hov, hb5⟩
      have hnu := units_len x
      obtain ⟨a9, k9, rfl, hP9⟩ := hov.plcs hb5 (by omega) (units_small hle (by omega))
      have HRI := Lib.hid (right_units x)
      have HUX := Lib.hid (show ∀ k u, (unitsL x)[k]? = some u → ∃ lo hi : Nat, lo < hi ∧ hi ≤ n3 ∧ u = plcR x (lo, hi) from fun k u hk => by rw [← hl3]; exact unit_at hk)
      obtain ⟨us, hus⟩ : ∃ us, unitsL x = us := ⟨_, rfl⟩
      rw [hus] at hP9 hnu HRI HUX ⊢
      obtain ⟨n9, hn9⟩ : ∃ n9, us.length = n9 := ⟨_, rfl⟩
      rw [hn9] at hP9 hnu ⊢
      have HP9 := Lib.hid hP9
      have HN9 := Lib.hid hn9
      have HB5 := Lib.hid (bstep HBB.out hb5)
      have HBX5 := Lib.hid (HBXb.out.below hb5)
      have hsr9 := hP9.small
      clear hov hb5 hus hn9 hP9 k0 k1 k2 k3 HUN HCK HGR HBX HBXa HBXb
      obtain ⟨k0, k1, k2, k3⟩ := HBX5.out
      go_wp2_with (fail)
      refine (HST.out _ HB5.out (by omega) a9 n9 k9 us HP9.out (by omega) HRI.out).mono ?_
      rintro e w6 ⟨at', kt, rfl, hRT, hb6⟩
      have HB6 := Lib.hid (bstep HB5.out hb6)
      have HX6 := Lib.hid (HBX5.out.below hb6)
      have HP6 := Lib.hid (Plcs.mono HP9.out (Nat.le_refl _) hb6)
      have HRT := Lib.hid hRT
      have HL1 := Lib.hid hl1
      clear hb6 hRT k0 k1 k2 k3 HST
      obtain ⟨k0, k1, k2, k3⟩ := HX6.out
      have e0 : ((n1 : Int) != (n1 : Int)) = false := by simp
      have e1 : ((n9 : Int) != (n9 : Int)) = false := by simp
      go_wp2_with (fail)
      clear k0 k1 k2 k3
      -- a row of a source
      have HROW := Lib.hid (show ∀ s, s < n1 → ∃ (bt ot : Nat) (az : Option Addr) (cs : Nat), at' = some ⟨bt, ot, none⟩ ∧ w6.cell? ⟨bt, ot + s, none⟩ = some (.slice az n9 cs) ∧ Ints w6 az n9 (us.map (stateU x s)) from fun s hs => by
        obtain ⟨xs, b, off, v, hx, hab, hcv, a', n', c', rfl, hI⟩ := HRT.out.at hs
        have hxe : xs = us.map (stateU x s) := by
          unfold statesL at hx
          rw [List.getElem?_map, List.getElem?_range (by omega)] at hx
          exact (Option.some.inj hx).symm
        subst hxe
        have hn : n' = n9 := by have := hI.len; rw [List.length_map, HN9.out] at this; omega
        subst hn
        exact ⟨b, off, a', c', hab, hcv, hI⟩)
      go_loopw [53] (fun sv wr => ∃ s : Nat, s ≤ n1 ∧ sv = .int .i64 s ∧ Below w6.heap.size w6 wr) (fun sv _ => n1 - (intOf sv).toNat)
      case atStart => exact ⟨0, Nat.zero_le _, rfl, Below.refl _ _⟩
      case round =>
        obtain ⟨ws, rfl⟩ : ∃ ws : World, ws = wr := ⟨_, rfl⟩
        obtain ⟨s, hs, rfl, hbs⟩ := hrel
        have HBS := Lib.hid hbs
        clear hbs
        by_cases hsn : s < n1
        · obtain ⟨bt, ot, az, cs, rfl, hcs, hIs⟩ := HROW.out s hsn
          have g0 := cell_keep HBS.out hcs
          have HIS := Lib.hid hIs
          have i1 : (s : Int) < (n1 : Int) := by omega
          clear hcs hIs
          go_wp2_with (fail)
          clear g0
          go_loopw [65] (fun kv wr => ∃ k : Nat, k ≤ n9 ∧ kv = .int .i64 k ∧ Below w6.heap.size w6 wr) (fun kv _ => n9 - (intOf kv).toNat)
          case atStart => exact ⟨0, Nat.zero_le _, rfl, HBS.out⟩
          case round =>
            obtain ⟨wk, rfl⟩ : ∃ wk : World, wk = wr := ⟨_, rfl⟩
            obtain ⟨k, hk, rfl, hbk⟩ := hrel
            have HBK := Lib.hid hbk
            clear hbk
            by_cases hkn : k < n9
            · obtain ⟨u, bb, oo, hu, rfl, ⟨ar, nr, kr, g0, g1, g2, hRd, _, _, _⟩⟩ := (Plcs.mono HP6.out (Nat.le_refl _) HBK.out).at hkn
              have HUK := Lib.hid hu
              obtain ⟨lo, hi, hlh, hh3, rfl⟩ := HUX.out k u hu
              simp only [plcR] at g0 g1 hRd
              have hsr := hRd.small
              have hlr := hRd.len
              have hSR := state_rng (x := x) (lo := lo) (hi := hi) (s := s) (by omega)
              rw [hlr] at hSR
              have HSAME := Lib.hid (fun t (ht : t < n1) => run_same (x := x) (lo := lo) (hi := hi) (s := s) (t := t) (by omega) (by omega))
              have HVAL := Lib.hid (show ∀ t (bq oq : Nat) (l : Option Addr), l = some ⟨bq, oq, none⟩ → Ints w6 l n9 (us.map (stateU x t)) → w6.cell? ⟨bq, oq + k, none⟩ = some (.int .i64 (stateU x t ⟨lo, hi, rdsL x lo hi⟩)) from fun t bq oq l hl hI => by
                obtain ⟨y, b', o', v', hy, hab, hcv, hv', _⟩ := Sl.at hI hkn
                rw [hl] at hab
                cases hab
                rw [hcv, hv']
                rw [List.getElem?_map, HUK.out] at hy
                exact congrArg (fun z => some (Value.int .i64 z)) (Option.some.inj hy).symm)
              obtain ⟨_, bs6, os6, _, _, rfl, _, _, _⟩ := Sl.at HIS.out hkn
              have HCV := Lib.hid (HVAL.out s bs6 os6 _ rfl HIS.out)
              obtain ⟨sv, hsv⟩ : ∃ sv, stateU x s ⟨lo, hi, rdsL x lo hi⟩ = sv := ⟨_, rfl⟩
              rw [hsv] at hSR HCV HSAME
              have d0 : decide ((lo : Int) < 0) = false := by simp
              have d1 : decide (n3 < hi) = false := by simp; omega
              have i2 : (k : Int) < (n9 : Int) := by omega
              have HBW := Lib.hid (bstep HB6.out HBK.out)
              have HXK := Lib.hid (HX6.out.below HBK.out)
              have bA := balloc wk (.cells #[.int .i64 (lo : Int), .int .i64 (hi : Int), .slice ar nr kr] 36)
              have HU7 := Lib.hid (BlkK.new wk #[.int .i64 (lo : Int), .int .i64 (hi : Int), .slice ar nr kr] 36)
              have HBA := Lib.hid (bstep HBK.out bA)
              have HXA := Lib.hid (HXK.out.below bA)
              have u0 := HU7.out.cell (i := 0) rfl
              have u1 := HU7.out.cell (i := 1) rfl
              have u2 := HU7.out.cell (i := 2) rfl
              obtain ⟨k0, k1, k2, k3⟩ := HXA.out
              obtain ⟨gs, hgs⟩ : ∃ gs, gapU x s lo hi = gs := ⟨_, rfl⟩
              have HWCS := Lib.hid (fun W (hb : Below w.heap.size w W) hbx => HWC.out W hb (by omega) hbx s hsn lo hi (by omega) hh3 ar nr kr)
              rw [hgs] at hSR HSAME HWCS
              clear hu hRd hsv hgs bA
              go_wp2_with (fail)
              refine (HWCS.out _ (bstep HB6.out HBA.out) HXA.out).mono ?_
              rintro e w7 ⟨aw, nw, kw, rfl, hSW, hb7⟩
              have HB7 := Lib.hid (bstep HBA.out hb7)
              have HX7 := Lib.hid (HXA.out.below hb7)
              have HU8 := Lib.hid (HU7.out.below hb7)
              have HSW := Lib.hid hSW
              clear hb7 hSW u0 u1 u2 k0 k1 k2 k3 g0 g1 g2 d0 d1
              have v2 := HU8.out.cell (i := 2) rfl
              have v0 := HU8.out.cell (i := 0) rfl
              have v1 := HU8.out.cell (i := 1) rfl
              have cs0 := cell_keep HB7.out HCV.out
              have hgg : (gs == (sv == -1)) = true := by
                rcases hSR with ⟨rfl, rfl⟩ | ⟨rfl, i, _, rfl⟩
                · rfl
                · have : ((i : Int) == -1) = false := by rw [beq_eq_false_iff_ne]; omega
                  rw [this]; rfl
              have hg1 : decide (sv < -1) = false := by
                rcases hSR with ⟨_, rfl⟩ | ⟨_, i, _, rfl⟩
                · rfl
                · exact decide_eq_false (by omega)
              have hg2 : decide ((nr : Int) ≤ sv) = false := by
                rcases hSR with ⟨_, rfl⟩ | ⟨_, i, hi', rfl⟩
                · exact decide_eq_false (by omega)
                · exact decide_eq_false (by omega)
              clear hSR
              go_wp2_with (fail)
              go_quiet (fail)
              clear hgg hg1 hg2 cs0
              have HB8 := Lib.hid (bstep HB7.out (bdrewN w7 nq))
              have HX8 := Lib.hid (HX7.out.below (bdrewN w7 nq))
              have HU9 := Lib.hid (HU8.out.below (bdrewN w7 nq))
              have HSW8 := Lib.hid (StrsL.mono HSW.out (Nat.le_refl _) (bdrewN w7 nq))
              obtain ⟨w8, hw8⟩ : ∃ w8, w7.drewN nq = w8 := ⟨_, rfl⟩
              rw [hw8] at HB8 HX8 HU9 HSW8 ⊢
              clear hw8 v0 v1 v2
              go_wp2_with (fail)
              go_loopw [113] (fun tv wr => ∃ t : Nat, t ≤ s ∧ tv = .int .i64 t ∧ Below w8.heap.size w8 wr) (fun tv _ => s - (intOf tv).toNat)
              case atStart => exact ⟨0, Nat.zero_le _, rfl, Below.refl _ _⟩
              case round =>
                obtain ⟨wt, rfl⟩ : ∃ wt : World, wt = wr := ⟨_, rfl⟩
                obtain ⟨t, ht, rfl, hbt⟩ := hrel
                have HBT := Lib.hid hbt
                have HB9 := Lib.hid (bstep HB8.out hbt)
                clear hbt
                by_cases hts : t < s
                · obtain ⟨bt', ot', az', cs', hbe, hcs', hIs'⟩ := HROW.out t (by omega)
                  injection hbe with hbe
                  injection hbe with hbe1 hbe2 _
                  subst hbe1 hbe2
                  obtain ⟨_, bq6, oq6, _, _, rfl, _, _, _⟩ := Sl.at hIs' hkn
                  have HCT := Lib.hid (HVAL.out t bq6 oq6 _ rfl hIs')
                  obtain ⟨tv, htv⟩ : ∃ tv, stateU x t ⟨lo, hi, rdsL x lo hi⟩ = tv := ⟨_, rfl⟩
                  have hsame := HSAME.out t (by omega)
                  rw [htv] at HCT hsame
                  obtain ⟨gt, hgt⟩ : ∃ gt, gapU x t lo hi = gt := ⟨_, rfl⟩
                  have HWCT := Lib.hid (fun W (hb : Below w.heap.size w W) hbx => HWC.out W hb (by omega) hbx t (by omega) lo hi (by omega) hh3 ar nr kr)
                  rw [hgt] at HWCT hsame
                  have HSM := Lib.hid hsame
                  have HCS := Lib.hid hcs'
                  have HXT := Lib.hid (HX8.out.below HBT.out)
                  have HUT := Lib.hid (HU9.out.below HBT.out)
                  have u0 := HUT.out.cell (i := 0) rfl
                  have u1 := HUT.out.cell (i := 1) rfl
                  have u2 := HUT.out.cell (i := 2) rfl
                  have i3 : (t : Int) < (s : Int) := by omega
                  clear hIs' htv hgt hsame hcs'
                  go_wp2_with (fail)
                  refine (HWCT.out _ (bstep HB6.out HB9.out) HXT.out).mono ?_
                  rintro e w10 ⟨ax, nx, kx, rfl, hSX, hb10⟩
                  have HB10 := Lib.hid (bstep HB9.out hb10)
                  have HBT10 := Lib.hid (bstep HBT.out hb10)
                  have HSX := Lib.hid hSX
                  have HSY := Lib.hid (StrsL.mono HSW8.out (Nat.le_refl _) HBT10.out)
                  have y0 := cell_keep HB10.out HCV.out
                  have y1 := cell_keep HB10.out HCS.out
                  have y2 := cell_keep HB10.out HCT.out
                  have i4 : (t : Int) < (n1 : Int) := by omega
                  clear hb10 hSX u0 u1 u2
                  cases gs
                  · cases gt
                    · have HEQ := Lib.hid (fun q => eqStrs aw ax kw kx nw nx _ _ (w10.drewN q) (StrsL.drewN HSY.out) (StrsL.drewN HSX.out))
                      have hsm := HSM.out rfl rfl
                      obtain ⟨rr, hrr⟩ : ∃ rr, decide (readL x s lo hi = readL x t lo hi) = rr := ⟨_, rfl⟩
                      rw [hrr] at HEQ hsm
                      clear hrr
                      go_wp2_with (fail)
                      go_quiet ((go_at_call 17; exact quietC (HEQ.out _)))
                      go_wp2_with (fail)
                      go_roundw
                      case rel => exact ⟨t + 1, by omega, by simp, bstep HBT10.out (bdrewN w10 _)⟩
                      case measure => simp [intOf]; omega
                    · go_wp2_with (fail)
                      go_quiet (fail)
                      go_wp2_with (fail)
                      go_roundw
                      case rel => exact ⟨t + 1, by omega, by simp, bstep HBT10.out (bdrewN w10 _)⟩
                      case measure => simp [intOf]; omega
                  · go_wp2_with (fail)
                    go_quiet (fail)
                    go_wp2_with (fail)
                    go_roundw
                    case rel => exact ⟨t + 1, by omega, by simp, bstep HBT10.out (bdrewN w10 _)⟩
                    case measure => simp [intOf]; omega
                · obtain rfl : t = s := by omega
                  go_wp2_with (fail)
                  go_roundw
                  case rel => exact ⟨k + 1, by omega, by simp, HB9.out⟩
                  case measure => simp [intOf]; omega
            · obtain rfl : k = n9 := by omega
              go_wp2_with (fail)
              go_roundw
              case rel => exact ⟨s + 1, by omega, by simp, HBK.out⟩
              case measure => simp [intOf]; omega
        · obtain rfl : s = n1 := by omega
          go_wp2_with (fail)
          refine (HAW.out _ (bstep HB6.out HBS.out)).mono ?_
          rintro e wz ⟨rfl, hbz⟩
          go_wp2_with (fail)
          go_ret
          exact ⟨rfl, bstep (bstep HB6.out HBS.out) hbz⟩
    · clear hb24 HUN HST HWC
      go_wp2_with (fail)
      refine (HAW.out _ HBA.out).mono ?_
      rintro e wb ⟨rfl, hbb⟩
      go_wp2_with (fail)
      go_ret
      exact ⟨rfl, bstep HBA.out hbb⟩
  · have dn : (collC x != 0) = true := by simpa using hok
    obtain ⟨cc, hcc⟩ : ∃ cc, collC x = cc := ⟨_, rfl⟩
    rw [hcc] at HCK dn
    clear h hok hev hcc
    go_enter Tryz.func6, Tryz.ntmps6
    go_wp2_with (fail)
    refine (HGR.out _ HB4.out).mono ?_
    rintro e wa ⟨⟨b, rfl, hb24⟩, hba⟩
    have HBA := Lib.hid (bstep HB4.out hba)
    have HBXa := Lib.hid (HBX.out.below hba)
    clear hba hb24
    cases b
    · obtain ⟨k0, k1, k2, k3⟩ := HBXa.out
      go_wp2_with (fail)
      refine (HCK.out _ HBA.out).mono ?_
      rintro e wb ⟨rfl, hbb⟩
      have HBB := Lib.hid (bstep HBA.out hbb)
      clear hbb k0 k1 k2 k3
      go_wp2_with (fail)
      refine (HAW.out _ HBB.out).mono ?_
      rintro e wc ⟨rfl, hbc⟩
      go_wp2_with (fail)
      go_ret
      exact ⟨rfl, bstep HBB.out hbc⟩
    · go_wp2_with (fail)
      refine (HAW.out _ HBA.out).mono ?_
      rintro e wb ⟨rfl, hbb⟩
      go_wp2_with (fail)
      go_ret
      exact ⟨rfl, bstep HBA.out hbb⟩
end Go.Proofs.YthfppkcefnmdoaaGreatDoor
