/-
  VariationJoin: the law.
-/
import Derived.Test.YthfppkcefnmdoaaGreatDoorL4
import Derived.Test.YthfppkcefnmdoaaGreatDoorJn
import Derived.Test.YthfppkcefnmdoaaGreatDoorRb
import Derived.Test.YthfppkcefnmdoaaGreatDoorNh
namespace Go.Ap
theorem join_rng {d : Int} {x : Coll} {us : List Plc} (h : rightB x us = true) {u : Plc} (hu : u ∈ joinL d x us) : 0 ≤ u.lo ∧ u.lo < u.hi ∧ u.hi ≤ x.columns.length := by
  obtain ⟨q, hq, rfl⟩ := List.mem_map.1 hu
  exact (join_at (d := d) h).rng q hq
theorem join_next {d : Int} {x : Coll} {us : List Plc} (h : rightB x us = true) {k : Nat} {u v : Plc} (hu : (joinL d x us)[k]? = some u) (hv : (joinL d x us)[k + 1]? = some v) : d < v.lo - u.hi ∧ u.hi < v.lo := by
  unfold joinL at hu hv
  rw [List.getElem?_map] at hu hv
  obtain ⟨p, hp, rfl⟩ := Option.map_eq_some_iff.1 hu
  obtain ⟨q, hq, rfl⟩ := Option.map_eq_some_iff.1 hv
  obtain ⟨h1, rfl⟩ := List.getElem?_eq_some_iff.1 hp
  obtain ⟨h2, rfl⟩ := List.getElem?_eq_some_iff.1 hq
  exact (List.pairwise_iff_getElem.1 (join_at (d := d) h).asc) k (k + 1) h1 h2 (by omega)
theorem join_cov {d : Int} {x : Coll} {us : List Plc} (h : rightB x us = true) {u : Plc} (hu : u ∈ us) : (joinL d x us).any (coverB u.lo u.hi) = true := by
  obtain ⟨q, hq, h1, h2⟩ := (join_at (d := d) h).cov u hu
  exact List.any_eq_true.2 ⟨_, List.mem_map.2 ⟨q, hq, rfl⟩, by simp [coverB, plcJ, h1, h2]⟩
end Go.Ap
namespace Go.Proofs.YthfppkcefnmdoaaGreatDoor
open Go.RowKit Go.Ap Go.Shelf Go.Proofs

attribute [local go_sem] Oper.semAt_some bs_toList empty_toList bs_size bs_extract
theorem join_small {d : Int} {x : Coll} {us : List Plc} (h : rightB x us = true) (h1 : x.sigla.length ≤ 32) (h2 : x.columns.length ≤ 1048576) : ∀ u ∈ joinL d x us, RdS u.rds := fun u hu => by
  obtain ⟨q, hq, rfl⟩ := List.mem_map.1 hu
  have := (join_at (d := d) h).rng q hq
  exact rdsL_small h1 (by omega)
set_option maxHeartbeats 1000000 in
theorem join1 (b : Nat) (lo hi : Int) (u : Plc) (a : Option Addr) (n k : Nat) (w : World) (hf : w.cell? ⟨b, 0, none⟩ = some (.int .i64 lo)) (ht : w.cell? ⟨b, 1, none⟩ = some (.int .i64 hi)) :
    Calls Tryz.prog 25 #[.agg #[.int .i64 u.lo, .int .i64 u.hi, .slice a n k], .pointer (some ⟨b, 0, none⟩)] w fun e w' => e = .returned (.bool (coverB lo hi u)) ∧ Below w.heap.size w w' := by
  obtain ⟨ulo, uhi, rds⟩ := u
  unfold coverB
  simp only
  have HB := Lib.hid (balloc w (.cells #[.int .i64 ulo, .int .i64 uhi, .slice a n k] 36))
  have c0 := cell_keep HB.out hf
  have c1 := cell_keep HB.out ht
  by_cases h1 : ulo ≤ lo
  · go_enter Tryz.func25, Tryz.ntmps25
    go_wp2_with (fail)
    go_ret
    exact ⟨by simp [h1], HB.out⟩
  · have d1 : decide (ulo ≤ lo) = false := by simpa using h1
    go_enter Tryz.func25, Tryz.ntmps25
    go_wp2_with (fail)
    go_ret
    exact ⟨by simp, HB.out⟩
set_option maxRecDepth 100000 in
set_option maxHeartbeats 16000000 in
theorem law5 (x : Coll) (a1 : Option Addr) (n1 c1 : Nat) (a2 : Option Addr) (n2 c2 : Nat) (a3 : Option Addr) (n3 c3 : Nat) (z : Int) (w : World) (h : CollM w a1 a2 a3 n1 n2 n3 x) (hc1 : n1 ≤ c1) (hz : 0 ≤ z ∧ z ≤ 255) (hev : EV w) :
    Calls Tryz.prog 5 #[.agg #[.string (bs x.sec), .slice a1 n1 c1, .slice a2 n2 c2, .slice a3 n3 c3], .int .u8 z] w fun e w' => e = .returned (.bool true) ∧ Below w.heap.size w w' := by
  have hl1 := h.sigla.len
  have hl3 := h.columns.len
  have hs3 := h.columns.small
  have HGR := Lib.hid (fun W (hb : Below w.heap.size w W) => greatR x a1 n1 c1 a2 n2 c2 a3 n3 c3 W (h.mono (Nat.le_refl _) hb))
  have HCK := Lib.hid (fun W (hb : Below w.heap.size w W) => collR x a1 n1 c1 a2 n2 c2 a3 n3 c3 W (h.mono (Nat.le_refl _) hb))
  have HAW := Lib.hid (fun W (hb : Below w.heap.size w W) => awakeP W (hev.mono (Nat.le_refl _) hb))
  have eg := enters_of Tryz.func25 (by kernel_rfl) rfl
  have HB4 := Lib.hid (balloc w (.cells #[.string (bs x.sec), .slice a1 n1 c1, .slice a2 n2 c2, .slice a3 n3 c3] 26))
  have HBX := Lib.hid (BoxC.new w x.sec a1 n1 c1 a2 n2 c2 a3 n3 c3)
  obtain ⟨hz0, hz1⟩ := hz
  unfold collV at HGR HCK
  by_cases hok : collC x = 0
  · have hv := val_of hok
    have hle := hv.le
    have HUN := Lib.hid (fun W (hb : Below w.heap.size w W) (h24 : x.columns.length ≤ 1048576) => callsIn_wide.1 (unitsP x a1 n1 c1 a2 n2 c2 a3 n3 c3 W (h.mono (Nat.le_refl _) hb) hc1 (hev.mono (Nat.le_refl _) hb) h24 hok))
    have HCU := Lib.hid (fun W (hb : Below w.heap.size w W) (h24 : x.columns.length ≤ 1048576) a n c us (hu : Plcs W a n us) (hr : rightB x us = true) => show Calls Tryz.prog 20 #[collV x.sec a1 n1 c1 a2 n2 c2 a3 n3 c3, .slice a n c] W fun e w' => e = .returned (.int .i64 0) ∧ Below W.heap.size W w' from by
      have := checkU x a1 n1 c1 a2 n2 c2 a3 n3 c3 W (h.mono (Nat.le_refl _) hb) hc1 (hev.mono (Nat.le_refl _) hb) h24 a n c us hu
      rwa [chkU, if_neg (by rw [hok]; simp), if_pos hr] at this)
    have HJN := Lib.hid (fun W (hb : Below w.heap.size w W) (h24 : x.columns.length ≤ 1048576) a n c us (hu : Plcs W a n us) (hn : n ≤ 1048576) (hr : rightB x us = true) (d : Int) (hd0 : 0 ≤ d) (hd1 : d ≤ 1024) => show Calls Tryz.prog 22 #[collV x.sec a1 n1 c1 a2 n2 c2 a3 n3 c3, .slice a n c, .int .i64 d] W fun e w' => ∃ aj nj kj, e = .returned (.tuple #[.slice aj nj kj, .int .i64 0]) ∧ Plcs w' aj nj (joinL d x us) ∧ Below W.heap.size W w' from by
      have := joinP x a1 n1 c1 a2 n2 c2 a3 n3 c3 W (h.mono (Nat.le_refl _) hb) hc1 (hev.mono (Nat.le_refl _) hb) h24 a n c us hu hn d
      rw [joinE_in (by rw [chkU, if_neg (by rw [hok]; simp), if_pos hr]) (by omega)] at this
      refine this.mono fun e w' ⟨v, he, ho, hb'⟩ => ?_
      have ho : OwnPl W w' v (joinL d x us) := ho
      obtain ⟨aj, kj, rfl, hp⟩ := ho.plcs hb' (by have := joinL_len d x us; have := hu.len; omega) (join_small hr hle h24)
      exact ⟨aj, _, kj, he, hp, hb'⟩)
    rw [hok] at HCK
    unfold collV at HUN HCU HJN
    clear h hv hok hev
    go_enter Tryz.func5, Tryz.ntmps5
    go_wp2_with (fail)
    obtain ⟨d, hd⟩ : ∃ d, z % 6 = d := ⟨_, rfl⟩
    have hd0 : 0 ≤ d := by omega
    have hd5 : d ≤ 5 := by omega
    rw [hd]
    clear hd
    refine (HGR.out _ HB4.out).mono ?_
    rintro e wa ⟨⟨b, rfl, hb24⟩, hba⟩
    have HBA := Lib.hid (bstep HB4.out hba)
    have HBXa := Lib.hid (HBX.out.below hba)
    clear hba
    cases b
    · have h24 := hb24 rfl
      obtain ⟨k0, k1, k2, k3⟩ := HBXa.out
      clear hb24
      go_wp2_with (fail)
      refine (HCK.out _ HBA.out).mono ?_
      rintro e wb ⟨rfl, hbb⟩
      have HBB := Lib.hid (bstep HBA.out hbb)
      have HBXb := Lib.hid (HBXa.out.below hbb)
      clear hbb k0 k1 k2 k3
      obtain ⟨k0, k1, k2, k3⟩ := HBXb.out
      go_wp2_with (fail)
      refine (HUN.out _ HBB.out (by omega)).mono ?_
      rintro e w5 ⟨v, rfl, hov, hb5⟩
      have hnu := units_len x
      obtain ⟨a9, k9, rfl, hP9⟩ := hov.plcs hb5 (by omega) (units_small hle (by omega))
      have HRI := Lib.hid (right_units x)
      obtain ⟨us, hus⟩ : ∃ us, unitsL x = us := ⟨_, rfl⟩
      rw [hus] at hP9 hnu HRI ⊢
      obtain ⟨n9, hn9⟩ : ∃ n9, us.length = n9 := ⟨_, rfl⟩
      rw [hn9] at hP9 hnu ⊢
      have HP9 := Lib.hid hP9
      have HN9 := Lib.hid hn9
      have HB5 := Lib.hid (bstep HBB.out hb5)
      have HBX5 := Lib.hid (HBXb.out.below hb5)
      clear hov hb5 hus hn9 hP9 k0 k1 k2 k3 HUN HCK HGR HBX HBXa HBXb
      obtain ⟨k0, k1, k2, k3⟩ := HBX5.out
      -- the three joins
      go_wp2_with (fail)
      refine (HJN.out _ HB5.out (by omega) a9 n9 k9 us HP9.out (by omega) HRI.out d (by omega) (by omega)).mono ?_
      rintro e w6 ⟨aj, na, kj, rfl, hPA, hb6⟩
      have HB6 := Lib.hid (bstep HB5.out hb6)
      have HBX6 := Lib.hid (HBX5.out.below hb6)
      have HP6 := Lib.hid (Plcs.mono HP9.out (Nat.le_refl _) hb6)
      have HPA := Lib.hid hPA
      clear hb6 hPA k0 k1 k2 k3
      obtain ⟨k0, k1, k2, k3⟩ := HBX6.out
      go_wp2_with (fail)
      refine (HJN.out _ HB6.out (by omega) a9 n9 k9 us HP6.out (by omega) HRI.out (d + 1) (by omega) (by omega)).mono ?_
      rintro e w7 ⟨al, nb, kl, rfl, hPB, hb7⟩
      have HB7 := Lib.hid (bstep HB6.out hb7)
      have HBX7 := Lib.hid (HBX6.out.below hb7)
      have HP7 := Lib.hid (Plcs.mono HP6.out (Nat.le_refl _) hb7)
      have HPA7 := Lib.hid (Plcs.mono HPA.out (Nat.le_refl _) hb7)
      have HLB := Lib.hid hPB.len
      clear hb7 hPB k0 k1 k2 k3
      obtain ⟨k0, k1, k2, k3⟩ := HBX7.out
      go_wp2_with (fail)
      refine (HJN.out _ HB7.out (by omega) a9 n9 k9 us HP7.out (by omega) HRI.out 0 (by omega) (by omega)).mono ?_
      rintro e w8 ⟨am, nc, km, rfl, hPC, hb8⟩
      have HB8 := Lib.hid (bstep HB7.out hb8)
      have HBX8 := Lib.hid (HBX7.out.below hb8)
      have HP8 := Lib.hid (Plcs.mono HP7.out (Nat.le_refl _) hb8)
      have HPA8 := Lib.hid (Plcs.mono HPA7.out (Nat.le_refl _) hb8)
      rw [joinL_zero HRI.out] at hPC
      have HPC := Lib.hid hPC
      have HRJ := Lib.hid (right_join (d := d) HRI.out)
      have HLA := Lib.hid HPA.out.len
      have g1 : nb ≤ na := by rw [← HLB.out, ← HLA.out]; exact joinL_mono (by omega) x us
      have g2 : na ≤ n9 := by rw [← HLA.out, ← HN9.out]; exact joinL_len d x us
      have e1 : decide (na < nb) = false := by simp; omega
      have e2 : decide (n9 < na) = false := by simp; omega
      clear hb8 hPC k0 k1 k2 k3 HJN
      obtain ⟨k0, k1, k2, k3⟩ := HBX8.out
      go_wp2_with (fail)
      refine (HCU.out _ HB8.out (by omega) aj na kj (joinL d x us) HPA8.out HRJ.out).mono ?_
      rintro e w10 ⟨rfl, hb10⟩
      have HB10 := Lib.hid (bstep HB8.out hb10)
      have HP10 := Lib.hid (Plcs.mono HP8.out (Nat.le_refl _) hb10)
      have HPA10 := Lib.hid (Plcs.mono HPA8.out (Nat.le_refl _) hb10)
      have HSM := Lib.hid (samePq am a9 km k9 nc n9 us us w10 (Plcs.mono HPC.out (Nat.le_refl _) hb10) HP10.out)
      rw [plcsB_iff.2 rfl] at HSM
      clear hb10 k0 k1 k2 k3 HCU
      go_wp2_with (fail)
      refine HSM.out.mono ?_
      rintro e w11 ⟨rfl, q11, rfl⟩
      have HNXT := Lib.hid (fun k u v (h1 : (joinL d x us)[k]? = some u) (h2 : (joinL d x us)[k + 1]? = some v) => join_next (d := d) HRI.out h1 h2)
      have HRNG := Lib.hid (show ∀ u ∈ joinL d x us, 0 ≤ u.lo ∧ u.lo < u.hi ∧ u.hi ≤ (n3 : Int) from fun u hu => by rw [← hl3]; exact join_rng HRI.out hu)
      have HCOV := Lib.hid (fun u (hu : u ∈ us) => join_cov (d := d) HRI.out hu)
      obtain ⟨js, hjs⟩ : ∃ js, joinL d x us = js := ⟨_, rfl⟩
      rw [hjs] at HNXT HRNG HCOV HPA10
      have HP11 := Lib.hid (Plcs.mono HP10.out (Nat.le_refl _) (bdrewN w10 q11))
      have HPA11 := Lib.hid (Plcs.mono HPA10.out (Nat.le_refl _) (bdrewN w10 q11))
      have HB11 := Lib.hid (bstep HB10.out (bdrewN w10 q11))
      obtain ⟨w11, hw11⟩ : ∃ w11, w10.drewN q11 = w11 := ⟨_, rfl⟩
      rw [hw11] at HP11 HPA11 HB11 ⊢
      clear hjs hw11 e1 e2
      go_wp2_with (fail)
      go_loopw [14] (fun kv wr => ∃ k : Nat, kv = .int .i64 ((k : Int) + 1) ∧ k ≤ na ∧ Below w11.heap.size w11 wr) (fun kv _ => na + 1 - (intOf kv).toNat)
      case atStart => exact ⟨0, by simp, Nat.zero_le _, Below.refl _ _⟩
      case round =>
        obtain ⟨wk, rfl⟩ : ∃ wk : World, wk = wr := ⟨_, rfl⟩
        obtain ⟨j, rfl, hj, hbk⟩ := hrel
        have HBK := Lib.hid hbk
        clear hbk
        by_cases hjn : j + 1 < na
        · obtain ⟨v, bb, oo, hv, rfl, ⟨_, _, _, g0, _, _, _, _, _, _⟩⟩ := (Plcs.mono HPA11.out (Nat.le_refl _) HBK.out).at hjn
          obtain ⟨u, bv, ov, hu, hbb, ⟨_, _, _, _, gv, _⟩⟩ := (Plcs.mono HPA11.out (Nat.le_refl _) HBK.out).at (show j < na by omega)
          injection hbb with hbb
          injection hbb with hbb1 hbb2 _
          subst hbb1 hbb2
          obtain ⟨n1', n2'⟩ := HNXT.out j u v hu hv
          obtain ⟨r1, r2, r3⟩ := HRNG.out u (List.mem_of_getElem? hu)
          obtain ⟨s1, s2, s3⟩ := HRNG.out v (List.mem_of_getElem? hv)
          obtain ⟨uhi, huhi⟩ : ∃ uhi, u.hi = uhi := ⟨_, rfl⟩
          obtain ⟨vlo, hvlo⟩ : ∃ vlo, v.lo = vlo := ⟨_, rfl⟩
          rw [huhi] at gv n1' n2' r2 r3
          rw [hvlo] at g0 n1' n2' s1 s2
          have i1 : (j : Int) + 1 < (na : Int) := by omega
          have i2 : (j : Int) < (na : Int) := by omega
          have i3 : decide (vlo - uhi ≤ d) = false := by simp; omega
          have hw1 : IntKind.i64.wrap ((j : Int) + 1 - 1) = (j : Int) := by rw [show (j : Int) + 1 - 1 = (j : Int) by omega]; exact Go.IntWalk.i64_in _ (by omega)
          have hw2 : IntKind.i64.wrap (j : Int) = (j : Int) := Go.IntWalk.i64_in _ (by omega)
          have hw3 : IntKind.i64.wrap (vlo - uhi) = vlo - uhi := Go.IntWalk.i64_in _ (by omega)
          clear hu hv huhi hvlo
          go_wp2_with (fail)
          go_quiet (fail)
          clear hw1 hw2 hw3
          go_wp2_with (fail)
          go_roundw
          case rel => exact ⟨j + 1, by simp, by omega, bstep HBK.out (bdrewN wk nq)⟩
          case measure => simp [intOf]; omega
        · have i1 : ¬ (j : Int) + 1 < (na : Int) := by omega
          go_wp2_with (fail)
          go_loopw [116] (fun kv wr => ∃ k : Nat, k ≤ n9 ∧ kv = .int .i64 k ∧ Below wk.heap.size wk wr) (fun kv _ => n9 - (intOf kv).toNat)
          case atStart => exact ⟨0, Nat.zero_le _, rfl, Below.refl _ _⟩
          case round =>
            obtain ⟨wt, rfl⟩ : ∃ wt : World, wt = wr := ⟨_, rfl⟩
            obtain ⟨t, ht, rfl, hbt⟩ := hrel
            have HBT := Lib.hid hbt
            clear hbt
            by_cases htn : t < n9
            · obtain ⟨u, bb, oo, hu, rfl, ⟨ar, nr, kr, g0, g1, g2, _, _, _, _⟩⟩ := (Plcs.mono HP11.out (Nat.le_refl _) (bstep HBK.out HBT.out)).at htn
              have hcv := HCOV.out u (List.mem_of_getElem? hu)
              obtain ⟨ulo, uhi, rds⟩ := u
              simp only at g0 g1 hcv
              have i2 : (t : Int) < (n9 : Int) := by omega
              have bA := balloc wt (.cells #[.int .i64 ulo, .int .i64 uhi, .slice ar nr kr] 36)
              have HK7 := Lib.hid (BlkK.new wt #[.int .i64 ulo, .int .i64 uhi, .slice ar nr kr] 36)
              have HBA := Lib.hid (bstep HBT.out bA)
              have HCN := Lib.hid (contPl (coverB ulo uhi) aj na kj js 25 #[.pointer (some ⟨wt.heap.size, 0, none⟩)] _ (Plcs.mono HPA11.out (Nat.le_refl _) (bstep HBK.out HBA.out)) eg
                (fun v _ a1 n1 k1 W hb => join1 wt.heap.size ulo uhi v a1 n1 k1 W ((HK7.out.below hb).cell rfl) ((HK7.out.below hb).cell rfl)))
              rw [hcv] at HCN
              clear hu hcv bA
              go_wp2_with (fail)
              refine HCN.out.mono ?_
              rintro e w12 ⟨rfl, hb12⟩
              have HB12 := Lib.hid (bstep HBA.out hb12)
              clear hb12
              go_wp2_with (fail)
              go_roundw
              case rel => exact ⟨t + 1, by omega, by simp, HB12.out⟩
              case measure => simp [intOf]; omega
            · obtain rfl : t = n9 := by omega
              go_wp2_with (fail)
              refine (HAW.out _ (bstep (bstep HB11.out HBK.out) HBT.out)).mono ?_
              rintro e wz ⟨rfl, hbz⟩
              go_wp2_with (fail)
              go_ret
              exact ⟨rfl, bstep (bstep (bstep HB11.out HBK.out) HBT.out) hbz⟩
    · clear hb24 HUN HCU HJN
      go_wp2_with (fail)
      refine (HAW.out _ HBA.out).mono ?_
      rintro e wb ⟨rfl, hbb⟩
      go_wp2_with (fail)
      go_ret
      exact ⟨rfl, bstep HBA.out hbb⟩
  · have dn : (collC x != 0) = true := by simpa using hok
    obtain ⟨cc, hcc⟩ : ∃ cc, collC x = cc := ⟨_, rfl⟩
    rw [hcc] at HCK dn
    clear h hok hev hcc
    go_enter Tryz.func5, Tryz.ntmps5
    go_wp2_with (fail)
    refine (HGR.out _ HB4.out).mono ?_
    rintro e wa ⟨⟨b, rfl, hb24⟩, hba⟩
    have HBA := Lib.hid (bstep HB4.out hba)
    have HBXa := Lib.hid (HBX.out.below hba)
    clear hba hb24
    cases b
    · obtain ⟨k0, k1, k2, k3⟩ := HBXa.out
      go_wp2_with (fail)
      refine (HCK.out _ HBA.out).mono ?_
      rintro e wb ⟨rfl, hbb⟩
      have HBB := Lib.hid (bstep HBA.out hbb)
      clear hbb k0 k1 k2 k3
      go_wp2_with (fail)
      refine (HAW.out _ HBB.out).mono ?_
      rintro e wc ⟨rfl, hbc⟩
      go_wp2_with (fail)
      go_ret
      exact ⟨rfl, bstep HBB.out hbc⟩
    · go_wp2_with (fail)
      refine (HAW.out _ HBA.out).mono ?_
      rintro e wb ⟨rfl, hbb⟩
      go_wp2_with (fail)
      go_ret
      exact ⟨rfl, bstep HBA.out hbb⟩
end Go.Proofs.YthfppkcefnmdoaaGreatDoor
