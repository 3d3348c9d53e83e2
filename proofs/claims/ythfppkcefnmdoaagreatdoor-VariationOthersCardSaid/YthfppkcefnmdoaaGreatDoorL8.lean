/-
  VariationOthers: the law.
-/
import Derived.Test.YthfppkcefnmdoaaGreatDoorL7
import Derived.Test.YthfppkcefnmdoaaGreatDoorSr
import Derived.Test.YthfppkcefnmdoaaGreatDoorTy
import Derived.Deep.QuietTactic
import Derived.BigQuiet
namespace Go.Proofs.YthfppkcefnmdoaaGreatDoor
open Go.RowKit Go.Ap Go.Shelf Go.Proofs

attribute [local go_sem] Oper.semAt_some bs_toList empty_toList bs_size bs_extract
set_option maxHeartbeats 2000000 in
theorem sameTb (a a' : Option Addr) (c c' n : Nat) (xss : List (List Int)) (w : World) (h : Rows2 w a n xss) (h' : Rows2 w a' n xss) :
    Calls Tryz.prog 41 #[.slice a n c, .slice a' n c'] w fun e w' => e = .returned (.bool true) ∧ ∃ q, w' = w.drewN q := by
  have hs := h.small
  have HX := Lib.hid h
  have HY := Lib.hid h'
  have e0 : ((n : Int) != (n : Int)) = false := by simp
  clear h h'
  go_enter Tryz.func41, Tryz.ntmps41
  go_wp2_with (fail)
  go_loopw [5] (fun i wr => ∃ j : Nat, j ≤ n ∧ i = .int .i64 j ∧ ∃ q, wr = w.drewN q) (fun i _ => n - (intOf i).toNat)
  case atStart => exact ⟨0, Nat.zero_le _, rfl, 0, rfl⟩
  case round =>
    obtain ⟨j, hj, rfl, q, hq⟩ := hrel
    have HQ := Lib.hid hq
    have hbq : Below w.heap.size w wr := by rw [hq]; exact bdrewN w q
    clear hq
    by_cases hlt : j < n
    · obtain ⟨xs, b, off, v, hx, rfl, hcv, a1, n1, c1, rfl, hI⟩ := HX.out.at hlt
      obtain ⟨ys, b', off', v', hy, rfl, hcv', a2, n2, c2, rfl, hI'⟩ := HY.out.at hlt
      obtain rfl : xs = ys := Option.some.inj (hx.symm.trans hy)
      have g0 := cell_keep hbq hcv
      have g1 := cell_keep hbq hcv'
      have HS := Lib.hid (fun p => sameIq a1 a2 c1 c2 n1 n2 xs xs (wr.drewN p) (Ints.mono hI (Nat.le_refl _) (bstep hbq (bdrewN wr p))) (Ints.mono hI' (Nat.le_refl _) (bstep hbq (bdrewN wr p))))
      simp only [decide_true] at HS
      have i1 : (j : Int) < (n : Int) := by omega
      clear hx hy hcv hcv' hI hI' hbq
      go_wp2_with (fail)
      go_quiet ((go_at_call 71; exact quietC (HS.out _)))
      go_wp2_with (fail)
      go_roundw
      case rel => exact ⟨j + 1, by omega, by simp, by rw [HQ.out]; exact drewN_ex w q nq⟩
      case measure => simp [intOf]; omega
    · obtain rfl : j = n := by omega
      go_wp2_with (fail)
      go_ret
      exact ⟨rfl, q, HQ.out⟩
set_option maxRecDepth 100000 in
set_option maxHeartbeats 4000000 in
theorem textR (x : Coll) (a1 : Option Addr) (n1 c1 : Nat) (a2 : Option Addr) (n2 c2 : Nat) (a3 : Option Addr) (n3 c3 : Nat) (w : World) (h : CollM w a1 a2 a3 n1 n2 n3 x) (h32 : x.columns.length ≤ 1048576)
    (a : Option Addr) (n c : Nat) (us : List Plc) (hu : Plcs w a n us) (s : Int) :
    Calls Tryz.prog 39 #[collV x.sec a1 n1 c1 a2 n2 c2 a3 n3 c3, .slice a n c, .int .i64 s] w (GivesW w (textE x us s)) := by
  have hl1 := h.sigla.len
  have hl3 := h.columns.len
  have HCK := Lib.hid (fun W (hb : Below w.heap.size w W) => checkR x a1 n1 c1 a2 n2 c2 a3 n3 c3 W (h.mono (Nat.le_refl _) hb) h32 a n c us (Plcs.mono hu (Nat.le_refl _) hb))
  have HB4 := Lib.hid (balloc w (.cells #[.string (bs x.sec), .slice a1 n1 c1, .slice a2 n2 c2, .slice a3 n3 c3] 26))
  have HBX := Lib.hid (BlkK.new w #[.string (bs x.sec), .slice a1 n1 c1, .slice a2 n2 c2, .slice a3 n3 c3] 26)
  by_cases hch : chkU x us = 0
  · obtain ⟨hok, hri⟩ := chkU_zero hch
    have hv := val_of hok
    by_cases hd : s < 0 ∨ (x.sigla.length : Int) ≤ s
    · have HE := Lib.hid (textE_out hch hd)
      rw [hch] at HCK
      unfold collV at HCK ⊢
      clear h hok hch hu hri hv
      by_cases q1 : s < 0
      · have t1 : decide (s < 0) = true := by simpa using q1
        go_enter Tryz.func39, Tryz.ntmps39
        obtain ⟨k0, k1, k2, k3⟩ := HBX.out.coll
        go_wp2_with (fail)
        refine (HCK.out _ HB4.out).mono ?_
        rintro e w1 ⟨rfl, hb1⟩
        clear k0 k1 k2 k3
        have HB1 := Lib.hid (bstep HB4.out hb1)
        go_wp2_with (fail)
        go_ret2
        rw [HE.out]
        exact ⟨_, rfl, OwnS.empty _ HB1.out.size, bstep HB1.out (balloc _ _)⟩
      · have t1 : decide (s < 0) = false := by simpa using q1
        have t2 : decide ((n1 : Int) ≤ s) = true := by simp; omega
        clear hd
        go_enter Tryz.func39, Tryz.ntmps39
        obtain ⟨k0, k1, k2, k3⟩ := HBX.out.coll
        go_wp2_with (fail)
        refine (HCK.out _ HB4.out).mono ?_
        rintro e w1 ⟨rfl, hb1⟩
        clear k0 k1 k2 k3
        obtain ⟨k0, k1, k2, k3⟩ := (HBX.out.below hb1).coll
        have HB1 := Lib.hid (bstep HB4.out hb1)
        go_wp2_with (fail)
        go_ret2
        rw [HE.out]
        exact ⟨_, rfl, OwnS.empty _ HB1.out.size, bstep HB1.out (balloc _ _)⟩
    · obtain ⟨s, rfl⟩ := Int.eq_ofNat_of_zero_le (show 0 ≤ s by omega)
      have hsn : s < x.sigla.length := by omega
      have HE := Lib.hid (textE_in hch hsn)
      have t2 : decide (n1 ≤ s) = false := by simp; omega
      have HRD := Lib.hid (fun W (hb : Below w.heap.size w W) => readingR x a1 n1 c1 a2 n2 c2 a3 n3 c3 W (h.mono (Nat.le_refl _) hb) hv 0 n3 s (Nat.zero_le _) (by omega) hsn h32)
      rw [hch] at HCK
      rw [hl3] at HE
      unfold collV at HCK HRD ⊢
      rw [show ((0 : Nat) : Int) = 0 from rfl] at HRD
      clear h hok hch hri hv hd hu
      go_enter Tryz.func39, Tryz.ntmps39
      obtain ⟨k0, k1, k2, k3⟩ := HBX.out.coll
      go_wp2_with (fail)
      refine (HCK.out _ HB4.out).mono ?_
      rintro e w1 ⟨rfl, hb1⟩
      clear k0 k1 k2 k3
      have HB1 := Lib.hid (bstep HB4.out hb1)
      obtain ⟨k0, k1, k2, k3⟩ := (HBX.out.below hb1).coll
      clear hb1
      go_wp2_with (fail)
      refine (HRD.out _ HB1.out).mono ?_
      rintro e w2 ⟨v, rfl, ho, hb2⟩
      go_wp2_with (fail)
      go_ret2
      rw [HE.out]
      exact ⟨v, rfl, ho.mono HB1.out.size, bstep HB1.out hb2⟩
  · have HE := Lib.hid (textE_bad (s := s) hch)
    have dn : (chkU x us != 0) = true := by simpa using hch
    obtain ⟨cc, hcc⟩ : ∃ cc, chkU x us = cc := ⟨_, rfl⟩
    rw [hcc] at HCK dn HE
    unfold collV at HCK ⊢
    clear h hu hch hcc
    go_enter Tryz.func39, Tryz.ntmps39
    obtain ⟨q0, q1, q2, q3⟩ := HBX.out.coll
    go_wp2_with (fail)
    refine (HCK.out _ HB4.out).mono ?_
    rintro e w1 ⟨rfl, hb1⟩
    clear q0 q1 q2 q3
    have HB1 := Lib.hid (bstep HB4.out hb1)
    go_wp2_with (fail)
    go_ret2
    rw [HE.out]
    exact ⟨_, rfl, OwnS.empty _ HB1.out.size, bstep HB1.out (balloc _ _)⟩
theorem statesE_len (x : Coll) (us : List Plc) : (statesE x us).1.length ≤ x.sigla.length ∧ ∀ xs ∈ (statesE x us).1, xs.length = us.length := by
  unfold statesE
  split
  · exact ⟨Nat.zero_le _, fun xs h => by cases h⟩
  · refine ⟨by simp [statesL], fun xs h => ?_⟩
    obtain ⟨s, _, rfl⟩ := List.mem_map.1 h
    rw [List.length_map]
theorem textE_len (x : Coll) (us : List Plc) (s : Int) : (textE x us s).1.length ≤ x.columns.length := by
  unfold textE
  split
  · exact Nat.zero_le _
  · split
    · exact Nat.zero_le _
    · have := readL_len x s.toNat 0 x.columns.length
      simp only
      omega
set_option maxRecDepth 100000 in
set_option maxHeartbeats 16000000 in
theorem law8 (x : Coll) (a1 : Option Addr) (n1 c1 : Nat) (a2 : Option Addr) (n2 c2 : Nat) (a3 : Option Addr) (n3 c3 : Nat) (a : Option Addr) (n c : Nat) (us : List Plc) (col s : Int) (w : World) (h : CollM w a1 a2 a3 n1 n2 n3 x) (hc1 : n1 ≤ c1) (hu : Plcs w a n us) (_ : I64 col) (_ : I64 s) (hev : EV w) :
    Calls Tryz.prog 8 #[.agg #[.string (bs x.sec), .slice a1 n1 c1, .slice a2 n2 c2, .slice a3 n3 c3], .slice a n c, .int .i64 col, .int .i64 s] w fun e w' => e = .returned (.bool true) ∧ Below w.heap.size w w' := by
  have hl1 := h.sigla.len
  have hs1 := h.sigla.small
  have hl3 := h.columns.len
  have hlu := hu.len
  have HGR := Lib.hid (fun W (hb : Below w.heap.size w W) => greatR x a1 n1 c1 a2 n2 c2 a3 n3 c3 W (h.mono (Nat.le_refl _) hb))
  have HGU := Lib.hid (fun W (hb : Below w.heap.size w W) => greatU a n c us W (Plcs.mono hu (Nat.le_refl _) hb))
  have HAW := Lib.hid (fun W (hb : Below w.heap.size w W) => awakeP W (hev.mono (Nat.le_refl _) hb))
  have HSP := Lib.hid (fun W (hb : Below w.heap.size w W) (h32 : x.columns.length ≤ 1048576) (hn : n ≤ 12) => statesP x a1 n1 c1 a2 n2 c2 a3 n3 c3 W (h.mono (Nat.le_refl _) hb) hc1 (hev.mono (Nat.le_refl _) hb) h32 a n c us (Plcs.mono hu (Nat.le_refl _) hb) (by omega))
  have HSR := Lib.hid (fun W (hb : Below w.heap.size w W) (h32 : x.columns.length ≤ 1048576) (hn : n ≤ 12) => statesR x a1 n1 c1 a2 n2 c2 a3 n3 c3 W (h.mono (Nat.le_refl _) hb) h32 a n c us (Plcs.mono hu (Nat.le_refl _) hb) (by omega))
  have HTP := Lib.hid (fun W (hb : Below w.heap.size w W) (h32 : x.columns.length ≤ 1048576) => textP x a1 n1 c1 a2 n2 c2 a3 n3 c3 W (h.mono (Nat.le_refl _) hb) hc1 (hev.mono (Nat.le_refl _) hb) h32 a n c us (Plcs.mono hu (Nat.le_refl _) hb) s)
  have HTR := Lib.hid (fun W (hb : Below w.heap.size w W) (h32 : x.columns.length ≤ 1048576) => textR x a1 n1 c1 a2 n2 c2 a3 n3 c3 W (h.mono (Nat.le_refl _) hb) h32 a n c us (Plcs.mono hu (Nat.le_refl _) hb) s)
  have HFP := Lib.hid (fun W (hb : Below w.heap.size w W) => findU a n c us col W (Plcs.mono hu (Nat.le_refl _) hb))
  have HFR := Lib.hid (fun W (hb : Below w.heap.size w W) => findR a n c us col W (Plcs.mono hu (Nat.le_refl _) hb))
  have HU := Lib.hid (fun W (hb : Below w.heap.size w W) => (Plcs.mono hu (Nat.le_refl _) hb))
  have HB4 := Lib.hid (balloc w (.cells #[.string (bs x.sec), .slice a1 n1 c1, .slice a2 n2 c2, .slice a3 n3 c3] 26))
  have HBX := Lib.hid (BoxC.new w x.sec a1 n1 c1 a2 n2 c2 a3 n3 c3)
  have hSL := statesE_len x us
  have hTL := textE_len x us s
  have hsu := hu.small
  unfold collV at HGR HSP HSR HTP HTR
  obtain ⟨sE, hsE⟩ : ∃ sE, statesE x us = sE := ⟨_, rfl⟩
  obtain ⟨tE, htE⟩ : ∃ tE, textE x us s = tE := ⟨_, rfl⟩
  obtain ⟨fE, hfE⟩ : ∃ fE, findE us col = fE := ⟨_, rfl⟩
  rw [hsE] at HSP HSR hSL
  rw [htE] at HTP HTR hTL
  rw [hfE] at HFP HFR
  obtain ⟨s1, s2⟩ := sE
  obtain ⟨t1, t2⟩ := tE
  obtain ⟨f1, f2⟩ := fE
  simp only at hSL hTL HFP HFR
  clear h hc1 hu hev hsE htE hfE
  go_enter Tryz.func8, Tryz.ntmps8
  obtain ⟨q0, q1, q2, q3⟩ := HBX.out
  go_wp2_with (fail)
  refine (HGR.out _ HB4.out).mono ?_
  rintro e wa ⟨⟨b, rfl, hb24⟩, hba⟩
  have HBA := Lib.hid (bstep HB4.out hba)
  have HBXa := Lib.hid (HBX.out.below hba)
  clear hba q0 q1 q2 q3
  cases b
  · have h24 := hb24 rfl
    have h32 : x.columns.length ≤ 1048576 := by omega
    clear hb24
    go_wp2_with (fail)
    refine (HGU.out _ HBA.out).mono ?_
    rintro e wb ⟨⟨b, rfl, hb12⟩, rfl⟩
    cases b
    · have h12 := hb12 rfl
      clear hb12
      obtain ⟨q0, q1, q2, q3⟩ := HBXa.out
      go_wp2_with (fail)
      refine (HSP.out _ HBA.out h32 h12).mono ?_
      rintro e w1 ⟨v1, rfl, ho1, hb1⟩
      have ho1 : OwnTb w1 wa.heap.size v1 s1 := ho1
      obtain ⟨ra, ka, rfl, hr1⟩ := ho1.rows (by omega) (fun xs hxs => by have := hSL.2 xs hxs; omega)
      have HB1 := Lib.hid (bstep HBA.out hb1)
      have HX1 := Lib.hid (HBXa.out.below hb1)
      have HRA := Lib.hid hr1
      clear ho1 hr1 hb1 q0 q1 q2 q3
      obtain ⟨q0, q1, q2, q3⟩ := HX1.out
      go_wp2_with (fail)
      refine (HSR.out _ HB1.out h32 h12).mono ?_
      rintro e w2 ⟨v2, rfl, ho2, hb2⟩
      have ho2 : OwnTb w2 w1.heap.size v2 s1 := ho2
      obtain ⟨rb, kb, rfl, hr2⟩ := ho2.rows (by omega) (fun xs hxs => by have := hSL.2 xs hxs; omega)
      have HB2 := Lib.hid (bstep HB1.out hb2)
      have HX2 := Lib.hid (HX1.out.below hb2)
      have HRA2 := Lib.hid (Rows2.mono HRA.out (Nat.le_refl _) hb2)
      have HRB := Lib.hid hr2
      have hsl := hSL.1
      obtain ⟨ns, hns⟩ : ∃ ns, s1.length = ns := ⟨_, rfl⟩
      rw [hns] at HRA2 HRB ⊢
      clear ho2 hr2 hb2 q0 q1 q2 q3 hSL hns hsl
      go_wp2_with (fail)
      refine (HFP.out _ HB2.out).mono ?_
      rintro e w3 ⟨rfl, hb3⟩
      have HB3 := Lib.hid (bstep HB2.out hb3)
      have HX3 := Lib.hid (HX2.out.below hb3)
      have HRA3 := Lib.hid (Rows2.mono HRA2.out (Nat.le_refl _) hb3)
      have HRB3 := Lib.hid (Rows2.mono HRB.out (Nat.le_refl _) hb3)
      clear hb3
      go_wp2_with (fail)
      refine (HFR.out _ HB3.out).mono ?_
      rintro e w4 ⟨rfl, hb4⟩
      have HB5 := Lib.hid (bstep HB3.out hb4)
      have HX5 := Lib.hid (HX3.out.below hb4)
      have HRA5 := Lib.hid (Rows2.mono HRA3.out (Nat.le_refl _) hb4)
      have HRB5 := Lib.hid (Rows2.mono HRB3.out (Nat.le_refl _) hb4)
      clear hb4
      obtain ⟨q0, q1, q2, q3⟩ := HX5.out
      go_wp2_with (fail)
      refine (HTP.out _ HB5.out h32).mono ?_
      rintro e w6 ⟨v6, rfl, ho6, hb6⟩
      have ho6 : OwnS w6 w4.heap.size v6 t1 := ho6
      obtain ⟨ta, la, rfl, hs6⟩ := ho6.strs (by omega)
      have HB6 := Lib.hid (bstep HB5.out hb6)
      have HX6 := Lib.hid (HX5.out.below hb6)
      have HRA6 := Lib.hid (Rows2.mono HRA5.out (Nat.le_refl _) hb6)
      have HRB6 := Lib.hid (Rows2.mono HRB5.out (Nat.le_refl _) hb6)
      have HTA := Lib.hid hs6
      clear ho6 hs6 hb6 q0 q1 q2 q3
      obtain ⟨q0, q1, q2, q3⟩ := HX6.out
      go_wp2_with (fail)
      refine (HTR.out _ HB6.out h32).mono ?_
      rintro e w7 ⟨v7, rfl, ho7, hb7⟩
      have ho7 : OwnS w7 w6.heap.size v7 t1 := ho7
      obtain ⟨tb, lb, rfl, hs7⟩ := ho7.strs (by omega)
      have HB7 := Lib.hid (bstep HB6.out hb7)
      have HRA7 := Lib.hid (Rows2.mono HRA6.out (Nat.le_refl _) hb7)
      have HRB7 := Lib.hid (Rows2.mono HRB6.out (Nat.le_refl _) hb7)
      have HTA7 := Lib.hid (StrsL.mono HTA.out (Nat.le_refl _) hb7)
      have HTB7 := Lib.hid hs7
      obtain ⟨nt, hnt⟩ : ∃ nt, t1.length = nt := ⟨_, rfl⟩
      rw [hnt] at HTA7 HTB7 ⊢
      clear ho7 hs7 hb7 q0 q1 q2 q3 hnt hTL
      go_wp2_with (fail)
      go_loopw [74] (fun kv wr => ∃ k : Nat, k ≤ n ∧ kv = .int .i64 k ∧ Below w7.heap.size w7 wr) (fun kv _ => n - (intOf kv).toNat)
      case atStart => exact ⟨0, Nat.zero_le _, rfl, Below.refl _ _⟩
      case round =>
        obtain ⟨wk, rfl⟩ : ∃ wk : World, wk = wr := ⟨_, rfl⟩
        obtain ⟨k, hk, rfl, hbk⟩ := hrel
        have HBK := Lib.hid hbk
        have HBW := Lib.hid (bstep HB7.out hbk)
        clear hbk
        by_cases hkn : k < n
        · obtain ⟨u, bb, oo, hu, rfl, ⟨ar, nr, kr, g0, g1, g2, hRd, _, _, _⟩⟩ := (HU.out wk HBW.out).at hkn
          have HRU := Lib.hid (fun W (hb : Below wk.heap.size wk W) => readU u ar nr kr s W (Rdgs.mono hRd (Nat.le_refl _) hb))
          have HRR := Lib.hid (fun W (hb : Below wk.heap.size wk W) => readR u ar nr kr s W (Rdgs.mono hRd (Nat.le_refl _) hb))
          obtain ⟨wE, hwE⟩ : ∃ wE, whoE u.rds s = wE := ⟨_, rfl⟩
          rw [hwE] at HRU HRR
          obtain ⟨e1, e2⟩ := wE
          obtain ⟨ulo, hulo⟩ : ∃ z, u.lo = z := ⟨_, rfl⟩
          obtain ⟨uhi, huhi⟩ : ∃ z, u.hi = z := ⟨_, rfl⟩
          rw [hulo] at g0 HRU HRR
          rw [huhi] at g1 HRU HRR
          have i1 : (k : Int) < (n : Int) := by omega
          have bA := balloc wk (.cells #[.int .i64 ulo, .int .i64 uhi, .slice ar nr kr] 36)
          have HU1 := Lib.hid (BlkK.new wk #[.int .i64 ulo, .int .i64 uhi, .slice ar nr kr] 36)
          have HBA := Lib.hid bA
          have u0 := HU1.out.cell (i := 0) rfl
          have u1 := HU1.out.cell (i := 1) rfl
          have u2 := HU1.out.cell (i := 2) rfl
          clear hu hRd hwE hulo huhi bA
          go_wp2_with (fail)
          refine (HRU.out _ HBA.out).mono ?_
          rintro e w8 ⟨rfl, hb8⟩
          have HB8 := Lib.hid (bstep HBA.out hb8)
          have HU2 := Lib.hid (HU1.out.below hb8)
          clear hb8 u0 u1 u2 g0 g1 g2
          have u0 := HU2.out.cell (i := 0) rfl
          have u1 := HU2.out.cell (i := 1) rfl
          have u2 := HU2.out.cell (i := 2) rfl
          go_wp2_with (fail)
          refine (HRR.out _ HB8.out).mono ?_
          rintro e w9 ⟨rfl, hb9⟩
          have HB9 := Lib.hid (bstep HB8.out hb9)
          clear hb9 u0 u1 u2
          have z1 : (e1 != e1) = false := by simp
          have z2 : (e2 != e2) = false := by simp
          go_wp2_with (fail)
          go_roundw
          case rel => exact ⟨k + 1, by omega, by simp, bstep HBK.out HB9.out⟩
          case measure => simp [intOf]; omega
        · obtain rfl : k = n := by omega
          have HST := Lib.hid (sameTb ra rb ka kb ns s1 wk (Rows2.mono HRA7.out (Nat.le_refl _) HBK.out) (Rows2.mono HRB7.out (Nat.le_refl _) HBK.out))
          go_wp2_with (fail)
          refine HST.out.mono ?_
          rintro e w10 ⟨rfl, q10, rfl⟩
          have HE1 := Lib.hid (eqStrs ta tb la lb nt nt _ _ (wk.drewN q10) (StrsL.mono HTA7.out (Nat.le_refl _) (bstep HBK.out (bdrewN wk q10))) (StrsL.mono HTB7.out (Nat.le_refl _) (bstep HBK.out (bdrewN wk q10))))
          rw [decide_eq_true rfl] at HE1
          go_wp2_with (fail)
          refine HE1.out.mono ?_
          rintro e w11 ⟨rfl, q11, rfl⟩
          have HBE := Lib.hid (bstep HBW.out (bdrewN wk (q10 + q11)))
          go_wp2_with (fail)
          refine (HAW.out _ HBE.out).mono ?_
          rintro e wz ⟨rfl, hbz⟩
          go_wp2_with (fail)
          go_ret
          exact ⟨rfl, bstep HBE.out hbz⟩
    · clear hb12
      go_wp2_with (fail)
      refine (HAW.out _ HBA.out).mono ?_
      rintro e wc ⟨rfl, hbc⟩
      go_wp2_with (fail)
      go_ret
      exact ⟨rfl, bstep HBA.out hbc⟩
  · clear hb24
    go_wp2_with (fail)
    refine (HAW.out _ HBA.out).mono ?_
    rintro e wc ⟨rfl, hbc⟩
    go_wp2_with (fail)
    go_ret
    exact ⟨rfl, bstep HBA.out hbc⟩
end Go.Proofs.YthfppkcefnmdoaaGreatDoor
