/-
  VariationTexts: the law.
-/
import Derived.Test.YthfppkcefnmdoaaGreatDoorL5
import Derived.Test.YthfppkcefnmdoaaGreatDoorTy
namespace Go.Proofs.YthfppkcefnmdoaaGreatDoor
open Go.RowKit Go.Ap Go.Shelf Go.Proofs

attribute [local go_sem] Oper.semAt_some bs_toList empty_toList bs_size bs_extract
set_option maxRecDepth 100000 in
set_option maxHeartbeats 16000000 in
theorem law9 (x : Coll) (a1 : Option Addr) (n1 c1 : Nat) (a2 : Option Addr) (n2 c2 : Nat) (a3 : Option Addr) (n3 c3 : Nat) (z y : Int) (w : World) (h : CollM w a1 a2 a3 n1 n2 n3 x) (hc1 : n1 ≤ c1) (hz : 0 ≤ z ∧ z ≤ 255) (hy : 0 ≤ y ∧ y ≤ 255) (hev : EV w) :
    Calls Tryz.prog 9 #[.agg #[.string (bs x.sec), .slice a1 n1 c1, .slice a2 n2 c2, .slice a3 n3 c3], .int .u8 z, .int .u8 y] w fun e w' => e = .returned (.bool true) ∧ Below w.heap.size w w' := by
  have hl1 := h.sigla.len
  have hl3 := h.columns.len
  have hs3 := h.columns.small
  have HGR := Lib.hid (fun W (hb : Below w.heap.size w W) => greatR x a1 n1 c1 a2 n2 c2 a3 n3 c3 W (h.mono (Nat.le_refl _) hb))
  have HCK := Lib.hid (fun W (hb : Below w.heap.size w W) => collR x a1 n1 c1 a2 n2 c2 a3 n3 c3 W (h.mono (Nat.le_refl _) hb))
  have HAW := Lib.hid (fun W (hb : Below w.heap.size w W) => awakeP W (hev.mono (Nat.le_refl _) hb))
  have HB4 := Lib.hid (balloc w (.cells #[.string (bs x.sec), .slice a1 n1 c1, .slice a2 n2 c2, .slice a3 n3 c3] 26))
  have HBX := Lib.hid (BoxC.new w x.sec a1 n1 c1 a2 n2 c2 a3 n3 c3)
  obtain ⟨hz0, hz1⟩ := hz
  obtain ⟨hy0, hy1⟩ := hy
  unfold collV at HGR HCK
  by_cases hok : collC x = 0
  · have hv := val_of hok
    have hle := hv.le
    have HUN := Lib.hid (fun W (hb : Below w.heap.size w W) (h24 : x.columns.length ≤ 1048576) => callsIn_wide.1 (unitsP x a1 n1 c1 a2 n2 c2 a3 n3 c3 W (h.mono (Nat.le_refl _) hb) hc1 (hev.mono (Nat.le_refl _) hb) h24 hok))
    have HJN := Lib.hid (fun W (hb : Below w.heap.size w W) (h24 : x.columns.length ≤ 1048576) a n c us (hu : Plcs W a n us) (hn : n ≤ 1048576) (hr : rightB x us = true) (d : Int) (hd0 : 0 ≤ d) (hd1 : d ≤ 1024) => show Calls Tryz.prog 22 #[collV x.sec a1 n1 c1 a2 n2 c2 a3 n3 c3, .slice a n c, .int .i64 d] W fun e w' => ∃ aj nj kj, e = .returned (.tuple #[.slice aj nj kj, .int .i64 0]) ∧ Plcs w' aj nj (joinL d x us) ∧ Below W.heap.size W w' from by
      have := joinP x a1 n1 c1 a2 n2 c2 a3 n3 c3 W (h.mono (Nat.le_refl _) hb) hc1 (hev.mono (Nat.le_refl _) hb) h24 a n c us hu hn d
      rw [joinE_in (by rw [chkU, if_neg (by rw [hok]; simp), if_pos hr]) (by omega)] at this
      refine this.mono fun e w' ⟨v, he, ho, hb'⟩ => ?_
      have ho : OwnPl W w' v (joinL d x us) := ho
      obtain ⟨aj, kj, rfl, hp⟩ := ho.plcs hb' (by have := joinL_len d x us; have := hu.len; omega) (join_small hr hle h24)
      exact ⟨aj, _, kj, he, hp, hb'⟩)
    have hp := hv.pos
    have HTP := Lib.hid (fun W (hb : Below w.heap.size w W) (h24 : x.columns.length ≤ 1048576) a n c us (hu : Plcs W a n us) (hr : rightB x us = true) (s : Nat) (hs : s < n1) => show Calls Tryz.prog 38 #[collV x.sec a1 n1 c1 a2 n2 c2 a3 n3 c3, .slice a n c, .int .i64 s] W fun e w' => ∃ aj nj kj, e = .returned (.tuple #[.slice aj nj kj, .int .i64 0]) ∧ StrsL w' aj nj (readL x s 0 n3) ∧ Below W.heap.size W w' from by
      have := textP x a1 n1 c1 a2 n2 c2 a3 n3 c3 W (h.mono (Nat.le_refl _) hb) hc1 (hev.mono (Nat.le_refl _) hb) h24 a n c us hu s
      rw [textE_in (by rw [chkU, if_neg (by rw [hok]; simp), if_pos hr]) (by omega), hl3] at this
      refine this.mono fun e w' ⟨v, he, ho, hb'⟩ => ?_
      have ho : OwnS w' W.heap.size v (readL x s 0 n3) := ho
      obtain ⟨aj, kj, rfl, hp⟩ := ho.strs (by have := readL_len x s 0 n3; omega)
      exact ⟨aj, _, kj, he, hp, hb'⟩)
    have HTC := Lib.hid (fun W (hb : Below w.heap.size w W) (h24 : x.columns.length ≤ 1048576) (s : Nat) (hs : s < n1) => show Calls Tryz.prog 42 #[collV x.sec a1 n1 c1 a2 n2 c2 a3 n3 c3, .int .i64 s] W fun e w' => ∃ aj nj kj, e = .returned (.tuple #[.slice aj nj kj, .int .i64 0]) ∧ StrsL w' aj nj (readL x s 0 n3) ∧ Below W.heap.size W w' from by
      have := textC x a1 n1 c1 a2 n2 c2 a3 n3 c3 W (h.mono (Nat.le_refl _) hb) hc1 (hev.mono (Nat.le_refl _) hb) hok s (by omega)
      rw [hl3] at this
      refine this.mono fun e w' ⟨v, he, ho, hb'⟩ => ?_
      have ho : OwnS w' W.heap.size v (readL x s 0 n3) := ho
      obtain ⟨aj, kj, rfl, hp⟩ := ho.strs (by have := readL_len x s 0 n3; omega)
      exact ⟨aj, _, kj, he, hp, hb'⟩)
    have e0 : ((n1 : Int) == 0) = false := by rw [beq_eq_false_iff_ne]; omega
    have hn1 : 0 < (n1 : Int) := by omega
    rw [hok] at HCK
    unfold collV at HUN HJN HTP HTC
    clear h hv hok hev hp
    go_enter Tryz.func9, Tryz.ntmps9
    go_wp2_with (fail)
    refine (HGR.out _ HB4.out).mono ?_
    rintro e wa ⟨⟨b, rfl, hb24⟩, hba⟩
    have HBA := Lib.hid (bstep HB4.out hba)
    have HBXa := Lib.hid (HBX.out.below hba)
    clear hba
    cases b
    · have h24 := hb24 rfl
      obtain ⟨k0, k1, k2, k3⟩ := HBXa.out
      clear hb24
      go_wp2_with (fail)
      refine (HCK.out _ HBA.out).mono ?_
      rintro e wb ⟨rfl, hbb⟩
      have HBB := Lib.hid (bstep HBA.out hbb)
      have HBXb := Lib.hid (HBXa.out.below hbb)
      clear hbb k0 k1 k2 k3
      obtain ⟨k0, k1, k2, k3⟩ := HBXb.out
      go_wp2_with (fail)
      obtain ⟨s, hs⟩ := Int.eq_ofNat_of_zero_le (Int.emod_nonneg z (show (n1 : Int) ≠ 0 by omega))
      have hsn : s < n1 := by have := Int.emod_lt_of_pos z hn1; omega
      rw [hs]
      clear hs
      refine (HUN.out _ HBB.out (by omega)).mono ?_
      rintro e w5 ⟨v, rfl, hov, hb5⟩
      have hnu := units_len x
      obtain ⟨a9, k9, rfl, hP9⟩ := hov.plcs hb5 (by omega) (units_small hle (by omega))
      have HRI := Lib.hid (right_units x)
      obtain ⟨us, hus⟩ : ∃ us, unitsL x = us := ⟨_, rfl⟩
      rw [hus] at hP9 hnu HRI ⊢
      obtain ⟨n9, hn9⟩ : ∃ n9, us.length = n9 := ⟨_, rfl⟩
      rw [hn9] at hP9 hnu ⊢
      have HP9 := Lib.hid hP9
      have HBW5 := Lib.hid (bstep HBB.out hb5)
      have HX5 := Lib.hid (HBXb.out.below hb5)
      clear hov hb5 hus hn9 hP9 k0 k1 k2 k3 HUN HCK HGR HBX HBXa HBXb
      obtain ⟨k0, k1, k2, k3⟩ := HX5.out
      go_wp2_with (fail)
      obtain ⟨d, hd⟩ : ∃ d, y % 6 = d := ⟨_, rfl⟩
      have hd0 : 0 ≤ d := by omega
      have hd5 : d ≤ 5 := by omega
      rw [hd]
      clear hd
      refine (HJN.out _ HBW5.out (by omega) a9 n9 k9 us HP9.out (by omega) HRI.out d (by omega) (by omega)).mono ?_
      rintro e w6 ⟨aj, na, kj, rfl, hPA, hb6⟩
      have HBW6 := Lib.hid (bstep HBW5.out hb6)
      have HX6 := Lib.hid (HX5.out.below hb6)
      have HP6 := Lib.hid (Plcs.mono HP9.out (Nat.le_refl _) hb6)
      have HPA := Lib.hid hPA
      have HRJ := Lib.hid (right_join (d := d) HRI.out)
      clear hb6 hPA k0 k1 k2 k3 HJN
      obtain ⟨k0, k1, k2, k3⟩ := HX6.out
      go_wp2_with (fail)
      refine (HTP.out _ HBW6.out (by omega) a9 n9 k9 us HP6.out HRI.out s hsn).mono ?_
      rintro e w7 ⟨sa, ma, ka, rfl, hSA, hb7⟩
      have HBW7 := Lib.hid (bstep HBW6.out hb7)
      have HX7 := Lib.hid (HX6.out.below hb7)
      have HPA7 := Lib.hid (Plcs.mono HPA.out (Nat.le_refl _) hb7)
      have HSA := Lib.hid hSA
      clear hb7 hSA k0 k1 k2 k3
      obtain ⟨k0, k1, k2, k3⟩ := HX7.out
      go_wp2_with (fail)
      refine (HTP.out _ HBW7.out (by omega) aj na kj _ HPA7.out HRJ.out s hsn).mono ?_
      rintro e w8 ⟨sb, mb, kb, rfl, hSB, hb8⟩
      have HBW8 := Lib.hid (bstep HBW7.out hb8)
      have HX8 := Lib.hid (HX7.out.below hb8)
      have HSA8 := Lib.hid (StrsL.mono HSA.out (Nat.le_refl _) hb8)
      have HSB := Lib.hid hSB
      clear hb8 hSB k0 k1 k2 k3 HTP
      obtain ⟨k0, k1, k2, k3⟩ := HX8.out
      go_wp2_with (fail)
      refine (HTC.out _ HBW8.out (by omega) s hsn).mono ?_
      rintro e w9 ⟨sc, mc, kc, rfl, hSC, hb9⟩
      have HBW9 := Lib.hid (bstep HBW8.out hb9)
      have HSA9 := Lib.hid (StrsL.mono HSA8.out (Nat.le_refl _) hb9)
      have HSB9 := Lib.hid (StrsL.mono HSB.out (Nat.le_refl _) hb9)
      have HSC := Lib.hid hSC
      clear hb9 hSC k0 k1 k2 k3 HTC
      have HE1 := Lib.hid (eqStrs sa sc ka kc ma mc _ _ w9 HSA9.out HSC.out)
      rw [decide_eq_true rfl] at HE1
      go_wp2_with (fail)
      refine HE1.out.mono ?_
      rintro e w10 ⟨rfl, q10, rfl⟩
      have HE2 := Lib.hid (eqStrs sb sc kb kc mb mc _ _ (w9.drewN q10) (StrsL.drewN HSB9.out) (StrsL.drewN HSC.out))
      rw [decide_eq_true rfl] at HE2
      go_wp2_with (fail)
      refine HE2.out.mono ?_
      rintro e w11 ⟨rfl, q11, rfl⟩
      have HBW11 := Lib.hid (bstep HBW9.out (bdrewN w9 (q10 + q11)))
      go_wp2_with (fail)
      refine (HAW.out _ HBW11.out).mono ?_
      rintro e wz ⟨rfl, hbz⟩
      go_wp2_with (fail)
      go_ret
      exact ⟨rfl, bstep HBW11.out hbz⟩
    · clear hb24 HUN HJN HTP HTC
      go_wp2_with (fail)
      refine (HAW.out _ HBA.out).mono ?_
      rintro e wb ⟨rfl, hbb⟩
      go_wp2_with (fail)
      go_ret
      exact ⟨rfl, bstep HBA.out hbb⟩
  · have dn : (collC x != 0) = true := by simpa using hok
    obtain ⟨cc, hcc⟩ : ∃ cc, collC x = cc := ⟨_, rfl⟩
    rw [hcc] at HCK dn
    clear h hok hev hcc
    go_enter Tryz.func9, Tryz.ntmps9
    go_wp2_with (fail)
    refine (HGR.out _ HB4.out).mono ?_
    rintro e wa ⟨⟨b, rfl, hb24⟩, hba⟩
    have HBA := Lib.hid (bstep HB4.out hba)
    have HBXa := Lib.hid (HBX.out.below hba)
    clear hba hb24
    cases b
    · obtain ⟨k0, k1, k2, k3⟩ := HBXa.out
      go_wp2_with (fail)
      refine (HCK.out _ HBA.out).mono ?_
      rintro e wb ⟨rfl, hbb⟩
      have HBB := Lib.hid (bstep HBA.out hbb)
      clear hbb k0 k1 k2 k3
      go_wp2_with (fail)
      refine (HAW.out _ HBB.out).mono ?_
      rintro e wc ⟨rfl, hbc⟩
      go_wp2_with (fail)
      go_ret
      exact ⟨rfl, bstep HBB.out hbc⟩
    · go_wp2_with (fail)
      refine (HAW.out _ HBA.out).mono ?_
      rintro e wb ⟨rfl, hbb⟩
      go_wp2_with (fail)
      go_ret
      exact ⟨rfl, bstep HBA.out hbb⟩
end Go.Proofs.YthfppkcefnmdoaaGreatDoor
