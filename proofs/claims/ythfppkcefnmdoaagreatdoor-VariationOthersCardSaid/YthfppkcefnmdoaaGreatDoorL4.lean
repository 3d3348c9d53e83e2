/-
  VariationPlaces: the law.
-/
import Derived.Test.YthfppkcefnmdoaaGreatDoorLa
import Derived.Test.YthfppkcefnmdoaaGreatDoorGr
import Derived.Test.YthfppkcefnmdoaaGreatDoorCn
import Derived.Test.YthfppkcefnmdoaaGreatDoorPU
import Derived.Test.YthfppkcefnmdoaaGreatDoorCu
import Derived.Test.YthfppkcefnmdoaaGreatDoorL3
import Derived.Deep.RegionHeld3
import Derived.Deep.QuietTactic
import Derived.BigQuiet
import Derived.IntWalk
namespace Go.Proofs.YthfppkcefnmdoaaGreatDoor
open Go.RowKit Go.Ap Go.Shelf Go.Proofs

attribute [local go_sem] Oper.semAt_some bs_toList empty_toList bs_size bs_extract
theorem units_next {x : Coll} {k : Nat} {u v : Plc} (h : (unitsL x)[k]? = some u) (h' : (unitsL x)[k + 1]? = some v) : u.hi < v.lo := by
  have hr := right_units x
  unfold rightB at hr
  rw [Bool.and_eq_true] at hr
  have ha := okUs_asc hr.1
  obtain ⟨h1, rfl⟩ := List.getElem?_eq_some_iff.1 h
  obtain ⟨h2, rfl⟩ := List.getElem?_eq_some_iff.1 h'
  exact (List.pairwise_iff_getElem.1 ha) k (k + 1) h1 h2 (by omega)
set_option maxRecDepth 100000 in
set_option maxHeartbeats 16000000 in
theorem law4 (x : Coll) (a1 : Option Addr) (n1 c1 : Nat) (a2 : Option Addr) (n2 c2 : Nat) (a3 : Option Addr) (n3 c3 : Nat) (w : World) (h : CollM w a1 a2 a3 n1 n2 n3 x) (hc1 : n1 ≤ c1) (hev : EV w) :
    Calls Tryz.prog 4 #[.agg #[.string (bs x.sec), .slice a1 n1 c1, .slice a2 n2 c2, .slice a3 n3 c3]] w fun e w' => e = .returned (.bool true) ∧ Below w.heap.size w w' := by
  obtain ⟨i9, hi9, hy0, hy1, hy2⟩ := info_parts infoBool
  have hl1 := h.sigla.len
  have hl3 := h.columns.len
  have hs3 := h.columns.small
  have HGR := Lib.hid (fun W (hb : Below w.heap.size w W) => greatR x a1 n1 c1 a2 n2 c2 a3 n3 c3 W (h.mono (Nat.le_refl _) hb))
  have HCK := Lib.hid (fun W (hb : Below w.heap.size w W) => collR x a1 n1 c1 a2 n2 c2 a3 n3 c3 W (h.mono (Nat.le_refl _) hb))
  have HAW := Lib.hid (fun W (hb : Below w.heap.size w W) => awakeP W (hev.mono (Nat.le_refl _) hb))
  obtain ⟨W4, hW4⟩ : ∃ W4, w.alloc (.cells #[.string (bs x.sec), .slice a1 n1 c1, .slice a2 n2 c2, .slice a3 n3 c3] 26) = W4 := ⟨_, rfl⟩
  have HB4 := Lib.hid (show Below w.heap.size w W4 by rw [← hW4]; exact balloc _ _)
  have HBX := Lib.hid (show BoxC W4 w.heap.size x.sec a1 n1 c1 a2 n2 c2 a3 n3 c3 by rw [← hW4]; exact BoxC.new _ _ _ _ _ _ _ _ _ _ _)
  have HW4 := Lib.hid hW4
  clear hW4
  unfold collV at HGR HCK
  by_cases hok : collC x = 0
  · have hv := val_of hok
    have hle := hv.le
    have HUN := Lib.hid (fun W (hb : Below w.heap.size w W) (h24 : x.columns.length ≤ 1048576) => callsIn_wide.1 (unitsP x a1 n1 c1 a2 n2 c2 a3 n3 c3 W (h.mono (Nat.le_refl _) hb) hc1 (hev.mono (Nat.le_refl _) hb) h24 hok))
    have HCU := Lib.hid (fun W (hb : Below w.heap.size w W) (h24 : x.columns.length ≤ 1048576) a n c us (hu : Plcs W a n us) (hr : rightB x us = true) => show Calls Tryz.prog 20 #[collV x.sec a1 n1 c1 a2 n2 c2 a3 n3 c3, .slice a n c] W fun e w' => e = .returned (.int .i64 0) ∧ Below W.heap.size W w' from by
      have := checkU x a1 n1 c1 a2 n2 c2 a3 n3 c3 W (h.mono (Nat.le_refl _) hb) hc1 (hev.mono (Nat.le_refl _) hb) h24 a n c us hu
      rwa [chkU, if_neg (by rw [hok]; simp), if_pos hr] at this)
    have HCM := Lib.hid (fun W (hb : Below w.heap.size w W) k (hk : k < x.columns.length) => commonL x a1 n1 c1 a2 n2 c2 a3 n3 c3 W (h.mono (Nat.le_refl _) hb) hc1 (hev.mono (Nat.le_refl _) hb) hok k hk)
    rw [hok] at HCK
    unfold collV at HUN HCU HCM
    clear h hv hok hev
    go_enter Tryz.func4, Tryz.ntmps4
    go_wp2_with (fail)
    rw [HW4.out]
    refine (HGR.out _ HB4.out).mono ?_
    rintro e wa ⟨⟨b, rfl, hb24⟩, hba⟩
    have HBA := Lib.hid (bstep HB4.out hba)
    have HBXa := Lib.hid (HBX.out.below hba)
    clear hba
    cases b
    · have h24 := hb24 rfl
      obtain ⟨k0, k1, k2, k3⟩ := HBXa.out
      clear hb24
      go_wp2_with (fail)
      refine (HCK.out _ HBA.out).mono ?_
      rintro e wb ⟨rfl, hbb⟩
      have HBB := Lib.hid (bstep HBA.out hbb)
      have HBXb := Lib.hid (HBXa.out.below hbb)
      clear hbb k0 k1 k2 k3
      obtain ⟨k0, k1, k2, k3⟩ := HBXb.out
      go_wp2_with (fail)
      refine (HUN.out _ HBB.out (by omega)).mono ?_
      rintro e w5 ⟨v, rfl, hov, hb5⟩
      have hnu := units_len x
      obtain ⟨a9, k9, rfl, hP9⟩ := hov.plcs hb5 (by omega) (units_small hle (by omega))
      have HRI := Lib.hid (right_units x)
      have HIN := Lib.hid (fun k (hk : k < x.columns.length) => inU_units (x := x) hk)
      have HNX := Lib.hid (fun k u v (h : (unitsL x)[k]? = some u) (h' : (unitsL x)[k + 1]? = some v) => units_next h h')
      have HUX := Lib.hid (show ∀ k u, (unitsL x)[k]? = some u → ∃ lo hi : Nat, lo < hi ∧ hi ≤ n3 ∧ u = plcR x (lo, hi) from fun k u hk => by rw [← hl3]; exact unit_at hk)
      obtain ⟨us, hus⟩ : ∃ us, unitsL x = us := ⟨_, rfl⟩
      rw [hus] at hP9 hnu HRI HIN HNX HUX ⊢
      obtain ⟨n9, hn9⟩ : ∃ n9, us.length = n9 := ⟨_, rfl⟩
      rw [hn9] at hP9 hnu ⊢
      have HP9 := Lib.hid hP9
      have HN9 := Lib.hid hn9
      have HB5 := Lib.hid (bstep HBB.out hb5)
      have HBX5 := Lib.hid (HBXb.out.below hb5)
      clear hov hb5 hus hn9 hP9 k0 k1 k2 k3 HUN HCK HGR HBX HBXa HBXb HW4
      obtain ⟨k0, k1, k2, k3⟩ := HBX5.out
      go_wp2_with (fail)
      refine (HCU.out _ HB5.out (by omega) a9 n9 k9 us HP9.out HRI.out).mono ?_
      rintro e w6 ⟨rfl, hb6⟩
      have HB6 := Lib.hid (bstep HB5.out hb6)
      have HBX6 := Lib.hid (HBX5.out.below hb6)
      have HP6 := Lib.hid (Plcs.mono HP9.out (Nat.le_refl _) hb6)
      clear hb6 k0 k1 k2 k3 HCU
      obtain ⟨k0, k1, k2, k3⟩ := HBX6.out
      have hmk : ∀ w, (Instr.makeSlice 52 (.int .i64 ((n3 : Int) + 1)) (.int .i64 ((n3 : Int) + 1))).run Tryz.prog w = .ok (.slice (some ⟨w.heap.size, 0, none⟩) (n3 + 1) (n3 + 1)) (w.alloc (.cells (Array.replicate (n3 + 1) (.bool false)) 4)) := fun w => by
        have h := run_make_row (P := Tryz.prog) 52 4 i9 (.bool false) Tryz.underlying52 hi9 hy0 hy1 rfl .i64 .i64 (n3 + 1) (by rw [hy2]; omega) (by omega) w
        rw [show madeCells #[Value.bool false] (n3 + 1) = ((List.replicate (n3 + 1) false).map Value.bool).toArray from made_all (enc := Value.bool) (x := false) rfl (n3 + 1), show ((List.replicate (n3 + 1) false).map Value.bool).toArray = Array.replicate (n3 + 1) (.bool false) by simp] at h
        simpa using h
      have HMK := Lib.hid hmk
      go_wp2_with (fail)
      clear hmk k0 k1 k2 k3
      have HAR0 := Lib.hid (show ArrG Value.bool (w6.alloc (.cells (Array.replicate (n3 + 1) (.bool false)) 4)) w6.heap.size 4 (inA (n3 + 1) (us.take 0) 0 0) by
        rw [List.take_zero, inA_zero, ArrG, show ((List.replicate (n3 + 1) false).map Value.bool).toArray = Array.replicate (n3 + 1) (.bool false) by simp]
        exact heap_fresh rfl)
      have HBK0 := Lib.hid (balloc w6 (.cells (Array.replicate (n3 + 1) (.bool false)) 4))
      obtain ⟨B, hB⟩ : ∃ B, w6.heap.size = B := ⟨_, rfl⟩
      have HBE := Lib.hid hB
      rw [hB] at HAR0 ⊢
      clear hB
      go_loopw [38] (fun kv wr => ∃ k : Nat, k ≤ n9 ∧ kv = .int .i64 k ∧ Below w6.heap.size w6 wr ∧ ArrG Value.bool wr B 4 (inA (n3 + 1) (us.take k) 0 0)) (fun kv _ => n9 - (intOf kv).toNat)
      case atStart => exact ⟨0, Nat.zero_le _, rfl, HBK0.out, HAR0.out⟩
      case round =>
        obtain ⟨wk, rfl⟩ : ∃ wk : World, wk = wr := ⟨_, rfl⟩
        obtain ⟨k, hk, rfl, hbk, har⟩ := hrel
        have HBK := Lib.hid hbk
        have HAR := Lib.hid har
        have HPK := Lib.hid (Plcs.mono HP6.out (Nat.le_refl _) hbk)
        have HXK := Lib.hid (HBX6.out.below hbk)
        clear hbk har
        by_cases hkn : k < n9
        · obtain ⟨u, bb, oo, hu, rfl, ⟨ar, nr, kr, g0, g1, g2, hRd, _, _, _⟩⟩ := HPK.out.at hkn
          have HU := Lib.hid hu
          obtain ⟨lo, hi, hlh, hh3, rfl⟩ := HUX.out k u hu
          simp only [plcR] at g0 g1
          have i1 : (k : Int) < (n9 : Int) := by omega
          go_wp2_with (fail)
          obtain ⟨b7, hb7⟩ : ∃ b7, wk.heap.size = b7 := ⟨_, rfl⟩
          have bA := balloc wk (.cells #[.int .i64 (lo : Int), .int .i64 (hi : Int), .slice ar nr kr] 36)
          have HK0 := Lib.hid (BlkK.new wk #[.int .i64 (lo : Int), .int .i64 (hi : Int), .slice ar nr kr] 36)
          have hBb : B < b7 := by rw [← hb7]; exact HAR.out.lt
          rw [hb7] at HK0 ⊢
          obtain ⟨WA, hWA⟩ : ∃ WA, wk.alloc (.cells #[.int .i64 (lo : Int), .int .i64 (hi : Int), .slice ar nr kr] 36) = WA := ⟨_, rfl⟩
          rw [hWA] at bA HK0 ⊢
          have HK7 := Lib.hid HK0.out
          have HBA := Lib.hid (bstep HBK.out bA)
          have HXA := Lib.hid (HXK.out.below bA)
          have HARA := Lib.hid (HAR.out.kept bA)
          have HPA := Lib.hid (Plcs.mono HPK.out (Nat.le_refl _) bA)
          have u0 := HK7.out.cell (i := 0) rfl
          have u1 := HK7.out.cell (i := 1) rfl
          clear hu hRd g0 g1 g2 bA hWA hb7 HK0
          obtain ⟨q0, q1, q2, q3⟩ := HXA.out
          have d0 : decide ((lo : Int) < 0) = false := by simp
          have d1 : decide (hi ≤ lo) = false := by simp; omega
          have d2 : decide (n3 < hi) = false := by simp; omega
          rcases Nat.eq_zero_or_pos k with h0 | h0
          · have e0 : decide (0 < k) = false := by simp; omega
            go_wp2_with (fail)
            go_quiet (fail)
            have HBX := Lib.hid (bdrewN WA nq)
            have HKX := Lib.hid (HK7.out.below HBX.out)
            have u0 := HKX.out.cell (i := 0) rfl
            have HAX := Lib.hid (HARA.out.kept HBX.out)
            have HBY := Lib.hid (bstep HBA.out HBX.out)
            go_wp2_with (fail)
            clear u0
            go_loopw [8] (fun qv wr => ∃ q : Nat, lo ≤ q ∧ q ≤ hi ∧ qv = .int .i64 q ∧ Below w6.heap.size w6 wr ∧ ArrG Value.bool wr B 4 (inA (n3 + 1) (us.take k) lo q) ∧ wr.cell? ⟨b7, 1, none⟩ = some (.int .i64 (hi : Int))) (fun qv _ => hi - (intOf qv).toNat)
            case atStart => exact ⟨lo, Nat.le_refl _, by omega, rfl, HBY.out, by
              have := HAX.out
              rwa [show inA (n3 + 1) (us.take k) 0 0 = inA (n3 + 1) (us.take k) lo lo from by unfold inA; apply List.map_congr_left; intro j _; rw [inA_off, inA_off]] at this, HKX.out.cell (i := 1) rfl⟩
            case round =>
              obtain ⟨wq, rfl⟩ : ∃ wq : World, wq = wr := ⟨_, rfl⟩
              obtain ⟨q, hlq, hqh, rfl, hbq, harq, hcq⟩ := hrel
              have HBQ := Lib.hid hbq
              have HARQ := Lib.hid harq
              have HCQ := Lib.hid hcq
              clear hbq harq
              by_cases hqlt : q < hi
              · have i2 : (q : Int) < (n3 : Int) + 1 := by omega
                have hfr := HARQ.out.free q
                obtain ⟨y, hy⟩ : ∃ y, (inA (n3 + 1) (us.take k) lo q)[q]? = some y := ⟨_, List.getElem?_eq_getElem (by rw [inA_len]; omega)⟩
                have hcc := HARQ.out.cell hy
                have HS2 := Lib.hid (HARQ.out.set q true)
                have HD2 := Lib.hid (show (wq.setCell ⟨B, q, none⟩ (.bool true)).cell? ⟨b7, 1, none⟩ = some (.int .i64 (hi : Int)) by
                  have gs := grownBy_setCell' wq B (.bool true)
                  have gs2 : wq.grownBy (wq.setCell ⟨B, q, none⟩ (.bool true)) (some B) := ⟨gs.os, gs.tape, gs.output, by simp [World.setCell], fun k hk hne => by simp [World.setCell, Array.getElem?_modify, show ¬ B = k from fun e => hne (by rw [e])]⟩
                  exact gs2.cell HCQ.out (by simp; omega))
                clear hy
                go_wp2_with (fail)
                go_roundw
                case rel => exact ⟨q + 1, by omega, by omega, by simp, HBQ.out.setCell (by have := HBE.out; simp; omega) _, by rw [← inA_set hlq]; exact HS2.out, HD2.out⟩
                case measure => simp [intOf]; omega
              · obtain rfl : q = hi := by omega
                go_wp2_with (fail)
                go_roundw
                case rel => exact ⟨k + 1, by omega, by simp; omega, HBQ.out, by rw [← inA_next HU.out rfl rfl 0]; exact HARQ.out⟩
                case measure => simp [intOf]; omega
          · obtain ⟨j, rfl⟩ : ∃ j, k = j + 1 := ⟨k - 1, by omega⟩
            obtain ⟨v', bv, ov, hv', hbb, ⟨_, _, _, _, gv, _⟩⟩ := HPA.out.at (show j < n9 by omega)
            injection hbb with hbb
            injection hbb with hbb1 hbb2 _
            subst hbb1 hbb2
            have hlt2 := HNX.out j _ _ hv' HU.out
            simp only [plcR] at hlt2
            obtain ⟨pl, ph, hpl, hph, rfl⟩ := HUX.out j v' hv'
            simp only [plcR] at gv hlt2
            clear hv'
            have d0' : decide ((0 : Int) < (j : Int) + 1) = true := decide_eq_true (by omega)
            have d3 : decide (lo ≤ ph) = false := by simp; omega
            have i3 : (j : Int) < (n9 : Int) := by omega
            have hw1 : IntKind.i64.wrap ((j : Int) + 1 - 1) = (j : Int) := by rw [show (j : Int) + 1 - 1 = (j : Int) by omega]; exact Go.IntWalk.i64_in _ (by omega)
            have hw2 : IntKind.i64.wrap (j : Int) = (j : Int) := Go.IntWalk.i64_in _ (by omega)
            rw [show ((j + 1 : Nat) : Int) = (j : Int) + 1 from rfl]
            go_wp2_with (fail)
            go_quiet (fail)
            clear hw1 hw2
            have HBX := Lib.hid (bdrewN WA nq)
            have HKX := Lib.hid (HK7.out.below HBX.out)
            have u0 := HKX.out.cell (i := 0) rfl
            have HAX := Lib.hid (HARA.out.kept HBX.out)
            have HBY := Lib.hid (bstep HBA.out HBX.out)
            go_wp2_with (fail)
            clear u0
            go_loopw [8] (fun qv wr => ∃ q : Nat, lo ≤ q ∧ q ≤ hi ∧ qv = .int .i64 q ∧ Below w6.heap.size w6 wr ∧ ArrG Value.bool wr B 4 (inA (n3 + 1) (us.take (j + 1)) lo q) ∧ wr.cell? ⟨b7, 1, none⟩ = some (.int .i64 (hi : Int))) (fun qv _ => hi - (intOf qv).toNat)
            case atStart => exact ⟨lo, Nat.le_refl _, by omega, rfl, HBY.out, by
              have := HAX.out
              rwa [show inA (n3 + 1) (us.take (j + 1)) 0 0 = inA (n3 + 1) (us.take (j + 1)) lo lo from by unfold inA; apply List.map_congr_left; intro j _; rw [inA_off, inA_off]] at this, HKX.out.cell (i := 1) rfl⟩
            case round =>
              obtain ⟨wq, rfl⟩ : ∃ wq : World, wq = wr := ⟨_, rfl⟩
              obtain ⟨q, hlq, hqh, rfl, hbq, harq, hcq⟩ := hrel
              have HBQ := Lib.hid hbq
              have HARQ := Lib.hid harq
              have HCQ := Lib.hid hcq
              clear hbq harq
              by_cases hqlt : q < hi
              · have i2 : (q : Int) < (n3 : Int) + 1 := by omega
                have hfr := HARQ.out.free q
                obtain ⟨y, hy⟩ : ∃ y, (inA (n3 + 1) (us.take (j + 1)) lo q)[q]? = some y := ⟨_, List.getElem?_eq_getElem (by rw [inA_len]; omega)⟩
                have hcc := HARQ.out.cell hy
                have HS2 := Lib.hid (HARQ.out.set q true)
                have HD2 := Lib.hid (show (wq.setCell ⟨B, q, none⟩ (.bool true)).cell? ⟨b7, 1, none⟩ = some (.int .i64 (hi : Int)) by
                  have gs := grownBy_setCell' wq B (.bool true)
                  have gs2 : wq.grownBy (wq.setCell ⟨B, q, none⟩ (.bool true)) (some B) := ⟨gs.os, gs.tape, gs.output, by simp [World.setCell], fun k hk hne => by simp [World.setCell, Array.getElem?_modify, show ¬ B = k from fun e => hne (by rw [e])]⟩
                  exact gs2.cell HCQ.out (by simp; omega))
                clear hy
                go_wp2_with (fail)
                go_roundw
                case rel => exact ⟨q + 1, by omega, by omega, by simp, HBQ.out.setCell (by have := HBE.out; simp; omega) _, by rw [← inA_set hlq]; exact HS2.out, HD2.out⟩
                case measure => simp [intOf]; omega
              · obtain rfl : q = hi := by omega
                go_wp2_with (fail)
                go_roundw
                case rel => exact ⟨(j + 1) + 1, by omega, by simp, HBQ.out, by rw [← inA_next HU.out rfl rfl 0]; exact HARQ.out⟩
                case measure => simp [intOf]; omega
        · obtain rfl : k = n9 := by omega
          have HARF := Lib.hid (show ArrG Value.bool wk B 4 (inA (n3 + 1) us 0 0) by
            have := HAR.out
            rwa [List.take_of_length_le (by rw [HN9.out]; exact Nat.le_refl _)] at this)
          obtain ⟨q0, q1, q2, q3⟩ := HXK.out
          go_wp2_with (fail)
          clear q0 q1 q2 q3
          go_loopw [91] (fun kv wr => ∃ k : Nat, k ≤ n3 ∧ kv = .int .i64 k ∧ Below wk.heap.size wk wr) (fun kv _ => n3 - (intOf kv).toNat)
          case atStart => exact ⟨0, Nat.zero_le _, rfl, Below.refl _ _⟩
          case round =>
            obtain ⟨wc, rfl⟩ : ∃ wc : World, wc = wr := ⟨_, rfl⟩
            obtain ⟨t, ht, rfl, hbt⟩ := hrel
            have HBT := Lib.hid hbt
            clear hbt
            by_cases htn : t < n3
            · have HCALL := Lib.hid (fun W (hb : Below w.heap.size w W) => HCM.out W hb t (by omega))
              have hin := HIN.out t (by omega)
              have hce := (HARF.out.kept HBT.out).cell (inA_at (m := n3 + 1) (us := us) (t := 0) (show t < n3 + 1 by omega))
              rw [hin] at hce
              have HCE := Lib.hid hce
              have HXT := Lib.hid (HXK.out.below HBT.out)
              have HBW := Lib.hid (bstep (bstep HB6.out HBK.out) HBT.out)
              obtain ⟨q0, q1, q2, q3⟩ := HXT.out
              have i1 : (t : Int) < (n3 : Int) + 1 := by omega
              have i2 : (t : Int) < (n3 : Int) := by omega
              clear hin hce
              obtain ⟨cb, hcb⟩ : ∃ cb, comB x t = cb := ⟨_, rfl⟩
              rw [hcb] at HCALL HCE
              have hce := HCE.out
              clear hcb
              go_wp2_with (fail)
              have HKP := Lib.hid (show ∀ W, Below wc.heap.size wc W → (W.cell? ⟨w.heap.size, 0, none⟩ = some (.string (bs x.sec)) ∧ W.cell? ⟨w.heap.size, 1, none⟩ = some (.slice a1 n1 c1) ∧ W.cell? ⟨w.heap.size, 2, none⟩ = some (.slice a2 n2 c2) ∧ W.cell? ⟨w.heap.size, 3, none⟩ = some (.slice a3 n3 c3) ∧ W.cell? ⟨B, t, none⟩ = some (.bool (!cb)) ∧ Below wc.heap.size wc W) from fun W hb => ⟨cell_keep hb (q0), cell_keep hb (q1), cell_keep hb (q2), cell_keep hb (q3), cell_keep hb (hce), hb⟩)
              go_region_held3 (fun W => W.cell? ⟨w.heap.size, 0, none⟩ = some (.string (bs x.sec)) ∧ W.cell? ⟨w.heap.size, 1, none⟩ = some (.slice a1 n1 c1) ∧ W.cell? ⟨w.heap.size, 2, none⟩ = some (.slice a2 n2 c2) ∧ W.cell? ⟨w.heap.size, 3, none⟩ = some (.slice a3 n3 c3) ∧ W.cell? ⟨B, t, none⟩ = some (.bool (!cb)) ∧ Below wc.heap.size wc W)
                ((refine HKP.out _ ?_; first | exact (Below.refl _ _).drew | (refine bstep ?_ hb2; exact (‹_ ∧ _ ∧ _ ∧ _ ∧ _ ∧ Below wc.heap.size wc _›).2.2.2.2.2) | exact (‹_ ∧ _ ∧ _ ∧ _ ∧ _ ∧ Below wc.heap.size wc _›).2.2.2.2.2))
                (first | (go_at_call 21; refine Calls.mono (HCALL.out _ ?_) ?_; exact bstep HBW.out (‹_ ∧ _ ∧ _ ∧ _ ∧ _ ∧ Below wc.heap.size wc _›).2.2.2.2.2; rintro e w' ⟨rfl, hb2⟩))
              have hbX := (‹_ ∧ _ ∧ _ ∧ _ ∧ _ ∧ Below wc.heap.size wc _›).2.2.2.2.2
              clear hb2
              cases cb
              all_goals
                go_wp2_with (fail)
                go_roundw
                case rel => exact ⟨t + 1, by omega, by simp, bstep HBT.out hbX⟩
                case measure => simp [intOf]; omega
            · obtain rfl : t = n3 := by omega
              go_wp2_with (fail)
              refine (HAW.out _ (bstep (bstep HB6.out HBK.out) HBT.out)).mono ?_
              rintro e wz ⟨rfl, hbz⟩
              go_wp2_with (fail)
              go_ret
              exact ⟨rfl, bstep (bstep (bstep HB6.out HBK.out) HBT.out) hbz⟩
    · clear hb24 HUN HCU HCM
      go_wp2_with (fail)
      refine (HAW.out _ HBA.out).mono ?_
      rintro e wb ⟨rfl, hbb⟩
      go_wp2_with (fail)
      go_ret
      exact ⟨rfl, bstep HBA.out hbb⟩
  · have dn : (collC x != 0) = true := by simpa using hok
    obtain ⟨cc, hcc⟩ : ∃ cc, collC x = cc := ⟨_, rfl⟩
    rw [hcc] at HCK dn
    clear h hok hev hcc
    go_enter Tryz.func4, Tryz.ntmps4
    go_wp2_with (fail)
    rw [HW4.out]
    refine (HGR.out _ HB4.out).mono ?_
    rintro e wa ⟨⟨b, rfl, hb24⟩, hba⟩
    have HBA := Lib.hid (bstep HB4.out hba)
    have HBXa := Lib.hid (HBX.out.below hba)
    clear hba hb24
    cases b
    · obtain ⟨k0, k1, k2, k3⟩ := HBXa.out
      go_wp2_with (fail)
      refine (HCK.out _ HBA.out).mono ?_
      rintro e wb ⟨rfl, hbb⟩
      have HBB := Lib.hid (bstep HBA.out hbb)
      clear hbb k0 k1 k2 k3
      go_wp2_with (fail)
      refine (HAW.out _ HBB.out).mono ?_
      rintro e wc ⟨rfl, hbc⟩
      go_wp2_with (fail)
      go_ret
      exact ⟨rfl, bstep HBB.out hbc⟩
    · go_wp2_with (fail)
      refine (HAW.out _ HBA.out).mono ?_
      rintro e wb ⟨rfl, hbb⟩
      go_wp2_with (fail)
      go_ret
      exact ⟨rfl, bstep HBA.out hbb⟩
end Go.Proofs.YthfppkcefnmdoaaGreatDoor
