/-
  Units: the reference's way.
-/
import Derived.Test.YthfppkcefnmdoaaGreatDoorRt
import Derived.Test.YthfppkcefnmdoaaGreatDoorRc
import Derived.Test.YthfppkcefnmdoaaGreatDoorUn
import Derived.Deep.RegionHeld3
import Derived.Deep.QuietTactic
import Derived.BigQuiet
namespace Go.Proofs.YthfppkcefnmdoaaGreatDoor
open Go.RowKit Go.Ap Go.Shelf Go.Proofs

attribute [local go_sem] Oper.semAt_some bs_toList empty_toList bs_size bs_extract
/-- where the row of a column lies -/
theorem row_lies {x : Coll} {a1 a2 a3 : Option Addr} {n1 n2 n3 : Nat} {w : World} (h : CollM w a1 a2 a3 n1 n2 n3 x) (i : Nat) (hi : i < n3) :
    ∃ (b o : Nat) (c : List Int) (a : Option Addr) (n cp : Nat), x.columns[i]? = some c ∧ a3 = some ⟨b, o, none⟩ ∧ w.cell? ⟨b, o + i, none⟩ = some (.slice a n cp) ∧ Ints w a n c := by
  obtain ⟨c, b, off, v, hc, hab, hcv, a', n', c', rfl, hI⟩ := h.columns.at hi
  exact ⟨b, off, c, a', n', c', hc, hab, hcv, hI⟩
set_option maxRecDepth 100000 in
set_option maxHeartbeats 8000000 in
theorem unitsR (x : Coll) (a1 : Option Addr) (n1 c1 : Nat) (a2 : Option Addr) (n2 c2 : Nat) (a3 : Option Addr) (n3 c3 : Nat) (w : World) (h : CollM w a1 a2 a3 n1 n2 n3 x) (h32 : x.columns.length ≤ 1048576) (hok : collC x = 0) :
    Calls Tryz.prog 29 #[collV x.sec a1 n1 c1 a2 n2 c2 a3 n3 c3] w fun e w' => ∃ v, e = .returned (.tuple #[v, .int .i64 0]) ∧ OwnPl w w' v (unitsL x) ∧ Below w.heap.size w w' := by
  obtain ⟨i0, hi0, hz0, hz1, hz2⟩ := info_parts infoPl
  have hv := val_of hok
  have hl3 := h.columns.len
  have hs3 := h.columns.small
  have HC := Lib.hid (fun W (hb : Below w.heap.size w W) => collR x a1 n1 c1 a2 n2 c2 a3 n3 c3 W (h.mono (Nat.le_refl _) hb))
  rw [hok] at HC
  have HRS := Lib.hid (fun lo hi (hlh : lo ≤ hi) (hh : hi ≤ n3) W (hb : Below w.heap.size w W) => readingsR x a1 n1 c1 a2 n2 c2 a3 n3 c3 W (h.mono (Nat.le_refl _) hb) hv lo hi hlh (by omega) h32)
  have HCM := Lib.hid (fun i (c : List Int) (hc : x.columns[i]? = some c) (a : Option Addr) (n cp : Nat) W (hb : Below w.heap.size w W) (hI : Ints w a n c) => commonR x a1 n1 c1 a2 n2 c2 a3 n3 c3 W (h.mono (Nat.le_refl _) hb) hv i c hc a n cp (hI.mono (Nat.le_refl _) hb))
  have HRL := Lib.hid (fun i (hi : i < n3) => row_lies h i hi)
  have hle := hv.le
  have HSM := Lib.hid (fun lo hi (hh : hi - lo ≤ 1048576) => rdsL_small (x := x) (lo := lo) (hi := hi) hle hh)
  have HUL := Lib.hid (show unitsL x = (runsF (comB x) n3 0).map (plcR x) by unfold unitsL; rw [hl3]; rfl)
  have HRC := Lib.hid (runsF_count (comB x) n3)
  have HB4 := Lib.hid (balloc w (.cells #[.string (bs x.sec), .slice a1 n1 c1, .slice a2 n2 c2, .slice a3 n3 c3] 26))
  have HBX := Lib.hid (BlkK.new w #[.string (bs x.sec), .slice a1 n1 c1, .slice a2 n2 c2, .slice a3 n3 c3] 26)
  clear h hok hv
  unfold collV at HC HRS HCM ⊢
  go_enter Tryz.func29, Tryz.ntmps29
  obtain ⟨q0, q1, q2, q3⟩ := HBX.out.coll
  go_wp2_with (fail)
  refine (HC.out _ HB4.out).mono ?_
  rintro e w1 ⟨rfl, hb1⟩
  have HB1 := Lib.hid (bstep HB4.out hb1)
  have HBX1 := Lib.hid (HBX.out.below hb1)
  clear hb1 q0 q1 q2 q3
  go_wp2_with (fail)
  have HE := Lib.hid (OwnPl.empty w w1 HB1.out.size)
  have kb := balloc w1 (.cells #[] 36)
  have HB2 := Lib.hid (bstep HB1.out kb)
  have HBX2 := Lib.hid (HBX1.out.below kb)
  obtain ⟨w2, hw2⟩ : ∃ w2, w1.alloc (.cells #[] 36) = w2 := ⟨_, rfl⟩
  have hsz2 : w1.heap.size < w2.heap.size := by rw [← hw2]; simp
  rw [hw2] at HE HB2 HBX2 ⊢
  clear hw2 kb
  go_loopw [4, 5] (fun ov fv wr => ∃ (k : Nat) (us : List Plc), k ≤ n3 + 1 ∧ fv = .int .i64 k ∧ OwnPl w wr ov us ∧ us ++ (runsF (comB x) n3 k).map (plcR x) = unitsL x ∧ Below w.heap.size w wr ∧ BlkK wr w.heap.size #[.string (bs x.sec), .slice a1 n1 c1, .slice a2 n2 c2, .slice a3 n3 c3] 26) (fun _ fv _ => n3 + 1 - (intOf fv).toNat)
  case atStart => exact ⟨0, [], Nat.zero_le _, rfl, HE.out, by rw [HUL.out]; rfl, HB2.out, HBX2.out⟩
  case round =>
    obtain ⟨wk, rfl⟩ : ∃ wk : World, wk = wr := ⟨_, rfl⟩
    obtain ⟨k, us, hk, rfl, ho, heq, hb, hbx⟩ := hrel
    have HO := Lib.hid ho
    have HEQ := Lib.hid heq
    have HB := Lib.hid hb
    have HX := Lib.hid hbx
    clear ho heq hb hbx
    obtain ⟨q0, q1, q2, q3⟩ := HX.out.coll
    by_cases hkn : k < n3
    · go_wp2_with (fail)
      clear q0 q1 q2 q3
      go_loopw [6] (fun tv wi => ∃ t : Nat, k ≤ t ∧ t ≤ n3 ∧ tv = .int .i64 t ∧ endF (comB x) (n3 - k) k = endF (comB x) (n3 - t) t ∧ Below wk.heap.size wk wi) (fun tv _ => n3 - (intOf tv).toNat)
      case atStart => exact ⟨k, Nat.le_refl _, by omega, rfl, rfl, Below.refl _ _⟩
      case round =>
        obtain ⟨wt, rfl⟩ : ∃ wt : World, wt = wr := ⟨_, rfl⟩
        obtain ⟨t, hkt, htn, rfl, hend, hbt⟩ := hrel
        have HEND := Lib.hid hend
        have HBT := Lib.hid hbt
        have HXT := Lib.hid (HX.out.below hbt)
        clear hend hbt
        by_cases htl : t < n3
        · obtain ⟨b9, o9, c, a9, n9, k9, hc, rfl, g9, hI9⟩ := HRL.out t htl
          have HCALL := Lib.hid (fun W (hb : Below w.heap.size w W) => HCM.out t c hc a9 n9 k9 W hb hI9)
          have hbwt := bstep HB.out HBT.out
          have gg := cell_keep hbwt g9
          have HGG := Lib.hid gg
          have HBW := Lib.hid hbwt
          obtain ⟨q0, q1, q2, q3⟩ := HXT.out.coll
          have i1 : (t : Int) < (n3 : Int) := by omega
          clear hc hI9 g9 hbwt
          have HKP := Lib.hid (show ∀ W, Below wt.heap.size wt W → (W.cell? ⟨w.heap.size, 0, none⟩ = some (.string (bs x.sec)) ∧ W.cell? ⟨w.heap.size, 1, none⟩ = some (.slice a1 n1 c1) ∧ W.cell? ⟨w.heap.size, 2, none⟩ = some (.slice a2 n2 c2) ∧ W.cell? ⟨w.heap.size, 3, none⟩ = some (.slice (some ⟨b9, o9, none⟩) n3 c3) ∧ W.cell? ⟨b9, o9 + t, none⟩ = some (.slice a9 n9 k9) ∧ Below wt.heap.size wt W) from fun W hb => by obtain ⟨c0, c1, c2, c3⟩ := (HXT.out.below hb).coll; exact ⟨c0, c1, c2, c3, cell_keep hb HGG.out, hb⟩)
          cases hcm : comB x t
          all_goals
            rw [hcm] at HCALL
            have HCMT := Lib.hid hcm
            clear hcm
            go_wp2_with (fail)
            go_region_held3 (fun W => W.cell? ⟨w.heap.size, 0, none⟩ = some (.string (bs x.sec)) ∧ W.cell? ⟨w.heap.size, 1, none⟩ = some (.slice a1 n1 c1) ∧ W.cell? ⟨w.heap.size, 2, none⟩ = some (.slice a2 n2 c2) ∧ W.cell? ⟨w.heap.size, 3, none⟩ = some (.slice (some ⟨b9, o9, none⟩) n3 c3) ∧ W.cell? ⟨b9, o9 + t, none⟩ = some (.slice a9 n9 k9) ∧ Below wt.heap.size wt W)
              ((refine HKP.out _ ?_; first | exact (Below.refl _ _).drew | (refine bstep ?_ hb2; exact (‹_ ∧ _ ∧ _ ∧ _ ∧ _ ∧ Below wt.heap.size wt _›).2.2.2.2.2) | exact (‹_ ∧ _ ∧ _ ∧ _ ∧ _ ∧ Below wt.heap.size wt _›).2.2.2.2.2))
              (first | (go_at_call 66; refine Calls.mono (HCALL.out _ ?_) ?_; exact bstep HBW.out (‹_ ∧ _ ∧ _ ∧ _ ∧ _ ∧ Below wt.heap.size wt _›).2.2.2.2.2; rintro e w' ⟨rfl, hb2⟩))
          · have hbX := (‹_ ∧ _ ∧ _ ∧ _ ∧ _ ∧ Below wt.heap.size wt _›).2.2.2.2.2
            have HN := Lib.hid (show endF (comB x) (n3 - k) k = endF (comB x) (n3 - (t + 1)) (t + 1) by rw [HEND.out, show n3 - t = (n3 - (t + 1)) + 1 by omega, endF_no HCMT.out])
            have HBX9 := Lib.hid (bstep HBT.out hbX)
            go_wp2_with (fail)
            go_roundw
            case rel => exact ⟨t + 1, by omega, by omega, by simp, HN.out, HBX9.out⟩
            case measure => simp [intOf]; omega
          · have hbX := (‹_ ∧ _ ∧ _ ∧ _ ∧ _ ∧ Below wt.heap.size wt _›).2.2.2.2.2
            have HN := Lib.hid (show endF (comB x) (n3 - k) k = t by rw [HEND.out, endF_yes HCMT.out])
            have HBX9 := Lib.hid (bstep HBT.out hbX)
            have HXX := Lib.hid (HXT.out.below hbX)
            rename_i hHeld
            clear hHeld hbX hb2 q0 q1 q2 q3 HKP gg
            have HRF := Lib.hid (runsF_at (comB x) hkn HN.out)
            have hszX := (bstep HB.out HBX9.out).size
            by_cases hlt : k < t
            · obtain ⟨q0, q1, q2, q3⟩ := HXX.out.coll
              have g1 : decide (k < t) = true := by simpa using hlt
              go_wp2_with (fail)
              refine (HRS.out k t (by omega) (by omega) _ (bstep HB.out HBX9.out)).mono ?_
              rintro e W2 ⟨z, rfl, hz, hb2⟩
              have HBW := Lib.hid (bstep HBX9.out hb2)
              have HOW := Lib.hid (HO.out.below HBW.out)
              have HX2 := Lib.hid (HXX.out.below hb2)
              have hsz2 := hb2.size
              obtain ⟨a9, k9, rfl, hr9⟩ := hz.rdgs (HSM.out k t (by omega))
              obtain ⟨n9, hn9⟩ : ∃ n9, (rdsL x k t).length = n9 := ⟨_, rfl⟩
              rw [hn9] at hz ⊢
              obtain ⟨vs, hrow, hnx⟩ := OwnPl.ready (u := plcR x (k, t)) (z := .slice a9 n9 k9) HOW.out (by omega) ⟨by simp only [plcR]; omega, by simp only [plcR]; omega⟩ ⟨by simp only [plcR]; omega, by simp only [plcR]; omega⟩ (.inl (hz.mono hszX))
              have hul : us.length ≤ n3 := by
                have h1 := congrArg List.length HEQ.out
                rw [HUL.out, List.length_append, List.length_map, List.length_map] at h1
                have := HRC.out
                omega
              obtain ⟨nu, hnu⟩ : ∃ nu, us.length = nu := ⟨_, rfl⟩
              rw [hnu] at hrow hnx hul
              have HROW := Lib.hid hrow
              have HNX := Lib.hid hnx
              have HNW := Lib.hid (show ∀ (j : Nat) (u : Value), [.int .i64 (k : Int), .int .i64 (t : Int), .slice a9 n9 k9][j]? = some u → (W2.alloc (.cells #[.int .i64 (k : Int), .int .i64 (t : Int), .slice a9 n9 k9] 36)).cell? ((⟨W2.heap.size, 0, none⟩ : Addr).add j) = some u from World.news_of_block (cs := #[.int .i64 (k : Int), .int .i64 (t : Int), .slice a9 n9 k9]) (heap_fresh rfl))
              clear hb2 hz hr9 hn9 hrow hnx hnu q0 q1 q2 q3
              go_wp2_with (at_builtin; refine wpList_append_own _ rfl _ _ 31 rfl w.heap.size 36 i0 (.agg #[.int .i64 0, .int .i64 0, .slice none 0 0]) 3 40 Tryz.underlying31 hi0 hz0 hz1 hz2 rfl (by decide) _ _ _ rfl (HROW.out.alloc _) ⟨W2.heap.size, 0, none⟩ 1 1 [.int .i64 (k : Int), .int .i64 (t : Int), .slice a9 n9 k9] rfl rfl HNW.out (by simp [Value.oneCell']) (by unfold maxLen; omega) (by omega) (by simp; omega) ?_; intro v1 w4 hown1 hgrow1 _; have HW3 := Lib.hid hown1; have HG := Lib.hid hgrow1; clear hown1 hgrow1)
              obtain ⟨j1, j2⟩ := HNX.out _ _ _ HW3.out HG.out
              go_roundw
              case rel => exact ⟨t + 1, us ++ [plcR x (k, t)], by omega, by simp, j1, by rw [← HEQ.out, HRF.out, if_pos hlt]; simp, (bstep HB.out HBW.out).trans j2, (HX2.out.below (balloc _ _)).keptE HG.out (BlkK.apart HX2.out HROW.out (by decide))⟩
              case measure => simp [intOf]; omega
            · have g1 : decide (k < t) = false := by simpa using hlt
              go_wp2_with (fail)
              go_roundw
              case rel => exact ⟨t + 1, us, by omega, by simp; omega, HO.out.below HBX9.out, by rw [← HEQ.out, HRF.out, if_neg hlt]; simp, bstep HB.out HBX9.out, HXX.out⟩
              case measure => simp [intOf]; omega
        · have htn3 : t = n3 := by omega
          have HTN := Lib.hid htn3
          have e0 : decide ((t : Int) < (n3 : Int)) = false := by simp; omega
          have e1 : decide (t < n3) = false := by simp; omega
          clear htn3
          obtain ⟨q0, q1, q2, q3⟩ := HXT.out.coll
          go_wp2_with (fail)
          go_quiet (fail)
          have HN := Lib.hid (show endF (comB x) (n3 - k) k = t by rw [HEND.out, HTN.out, Nat.sub_self]; rfl)
          have HBX9 := Lib.hid (bstep HBT.out (bdrewN wt nq))
          have HXX := Lib.hid (HXT.out.below (bdrewN wt nq))
          have HRF := Lib.hid (runsF_at (comB x) hkn HN.out)
          have hszX := (bstep HB.out HBX9.out).size
          by_cases hlt : k < t
          · obtain ⟨q0, q1, q2, q3⟩ := HXX.out.coll
            have g1 : decide (k < t) = true := by simpa using hlt
            go_wp2_with (fail)
            refine (HRS.out k t (by omega) (by omega) _ (bstep HB.out HBX9.out)).mono ?_
            rintro e W2 ⟨z, rfl, hz, hb2⟩
            have HBW := Lib.hid (bstep HBX9.out hb2)
            have HOW := Lib.hid (HO.out.below HBW.out)
            have HX2 := Lib.hid (HXX.out.below hb2)
            have hsz2 := hb2.size
            obtain ⟨a9, k9, rfl, hr9⟩ := hz.rdgs (HSM.out k t (by omega))
            obtain ⟨n9, hn9⟩ : ∃ n9, (rdsL x k t).length = n9 := ⟨_, rfl⟩
            rw [hn9] at hz ⊢
            obtain ⟨vs, hrow, hnx⟩ := OwnPl.ready (u := plcR x (k, t)) (z := .slice a9 n9 k9) HOW.out (by omega) ⟨by simp only [plcR]; omega, by simp only [plcR]; omega⟩ ⟨by simp only [plcR]; omega, by simp only [plcR]; omega⟩ (.inl (hz.mono hszX))
            have hul : us.length ≤ n3 := by
              have h1 := congrArg List.length HEQ.out
              rw [HUL.out, List.length_append, List.length_map, List.length_map] at h1
              have := HRC.out
              omega
            obtain ⟨nu, hnu⟩ : ∃ nu, us.length = nu := ⟨_, rfl⟩
            rw [hnu] at hrow hnx hul
            have HROW := Lib.hid hrow
            have HNX := Lib.hid hnx
            have HNW := Lib.hid (show ∀ (j : Nat) (u : Value), [.int .i64 (k : Int), .int .i64 (t : Int), .slice a9 n9 k9][j]? = some u → (W2.alloc (.cells #[.int .i64 (k : Int), .int .i64 (t : Int), .slice a9 n9 k9] 36)).cell? ((⟨W2.heap.size, 0, none⟩ : Addr).add j) = some u from World.news_of_block (cs := #[.int .i64 (k : Int), .int .i64 (t : Int), .slice a9 n9 k9]) (heap_fresh rfl))
            clear hb2 hz hr9 hn9 hrow hnx hnu q0 q1 q2 q3
            go_wp2_with (at_builtin; refine wpList_append_own _ rfl _ _ 31 rfl w.heap.size 36 i0 (.agg #[.int .i64 0, .int .i64 0, .slice none 0 0]) 3 40 Tryz.underlying31 hi0 hz0 hz1 hz2 rfl (by decide) _ _ _ rfl (HROW.out.alloc _) ⟨W2.heap.size, 0, none⟩ 1 1 [.int .i64 (k : Int), .int .i64 (t : Int), .slice a9 n9 k9] rfl rfl HNW.out (by simp [Value.oneCell']) (by unfold maxLen; omega) (by omega) (by simp; omega) ?_; intro v1 w4 hown1 hgrow1 _; have HW3 := Lib.hid hown1; have HG := Lib.hid hgrow1; clear hown1 hgrow1)
            obtain ⟨j1, j2⟩ := HNX.out _ _ _ HW3.out HG.out
            go_roundw
            case rel => exact ⟨t + 1, us ++ [plcR x (k, t)], by omega, by simp, j1, by rw [← HEQ.out, HRF.out, if_pos hlt]; simp, (bstep HB.out HBW.out).trans j2, (HX2.out.below (balloc _ _)).keptE HG.out (BlkK.apart HX2.out HROW.out (by decide))⟩
            case measure => simp [intOf]; omega
          · have g1 : decide (k < t) = false := by simpa using hlt
            go_wp2_with (fail)
            go_roundw
            case rel => exact ⟨t + 1, us, by omega, by simp; omega, HO.out.below HBX9.out, by rw [← HEQ.out, HRF.out, if_neg hlt]; simp, bstep HB.out HBX9.out, HXX.out⟩
            case measure => simp [intOf]; omega
    · have HZ := Lib.hid (show us = unitsL x by rw [← HEQ.out, runsF_done _ (by omega)]; simp)
      go_wp2_with (fail)
      go_ret2
      exact ⟨_, rfl, by rw [← HZ.out]; exact HO.out, HB.out⟩
end Go.Proofs.YthfppkcefnmdoaaGreatDoor
