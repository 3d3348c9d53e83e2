/-
  Readings: both ways.
-/
import Derived.Test.YthfppkcefnmdoaaGreatDoorRt
import Derived.Test.YthfppkcefnmdoaaGreatDoorNf
import Derived.Test.YthfppkcefnmdoaaGreatDoorNg
import Derived.Test.YthfppkcefnmdoaaGreatDoorRc
import Derived.Test.YthfppkcefnmdoaaGreatDoorUn
namespace Go.Ap
/-- the readings in columns, and the error -/
def rdsE (x : Coll) (lo hi : Int) : List Rdg × Int :=
  if collC x ≠ 0 then ([], 1) else if lo < 0 ∨ hi < lo ∨ (x.columns.length : Int) < hi then ([], 2) else (rdsL x lo.toNat hi.toNat, 0)
theorem rdsE_bad {x : Coll} {lo hi : Int} (h : collC x ≠ 0) : rdsE x lo hi = ([], 1) := if_pos h
theorem rdsE_out {x : Coll} {lo hi : Int} (h : collC x = 0) (h2 : lo < 0 ∨ hi < lo ∨ (x.columns.length : Int) < hi) : rdsE x lo hi = ([], 2) := by rw [rdsE, if_neg (by rw [h]; simp), if_pos h2]
theorem rdsE_in {x : Coll} {lo hi : Nat} (h : collC x = 0) (h2 : lo ≤ hi) (h3 : hi ≤ x.columns.length) : rdsE x lo hi = (rdsL x lo hi, 0) := by
  rw [rdsE, if_neg (by rw [h]; simp), if_neg (by omega)]
  rfl
end Go.Ap
namespace Go.Proofs.YthfppkcefnmdoaaGreatDoor
open Go.RowKit Go.Ap Go.Shelf Go.Proofs

attribute [local go_sem] Oper.semAt_some bs_toList empty_toList bs_size bs_extract
/-- a slice of readings and an error -/
def GivesR (w : World) (r : List Rdg × Int) (e : Ending) (w' : World) : Prop := ∃ a n c, e = .returned (.tuple #[.slice a n c, .int .i64 r.2]) ∧ Rdgs w' a n r.1 ∧ Below w.heap.size w w'
set_option maxRecDepth 100000 in
set_option maxHeartbeats 4000000 in
theorem readsP (x : Coll) (a1 : Option Addr) (n1 c1 : Nat) (a2 : Option Addr) (n2 c2 : Nat) (a3 : Option Addr) (n3 c3 : Nat) (w : World) (h : CollM w a1 a2 a3 n1 n2 n3 x) (hc1 : n1 ≤ c1) (hev : EV w) (h32 : x.columns.length ≤ 1048576) (lo hi : Int) :
    Calls Tryz.prog 30 #[collV x.sec a1 n1 c1 a2 n2 c2 a3 n3 c3, .int .i64 lo, .int .i64 hi] w (GivesR w (rdsE x lo hi)) := by
  have hl3 := h.columns.len
  have HCK := Lib.hid (fun W (hb : Below w.heap.size w W) => collP x a1 n1 c1 a2 n2 c2 a3 n3 c3 W (h.mono (Nat.le_refl _) hb) hc1 (hev.mono (Nat.le_refl _) hb))
  have HB4 := Lib.hid (balloc w (.cells #[.string (bs x.sec), .slice a1 n1 c1, .slice a2 n2 c2, .slice a3 n3 c3] 26))
  have HBX := Lib.hid (BoxC.new w x.sec a1 n1 c1 a2 n2 c2 a3 n3 c3)
  by_cases hok : collC x = 0
  · have hv := val_of hok
    have hle := hv.le
    have HRS := Lib.hid (fun (lo hi : Nat) (hlh : lo ≤ hi) (hh : hi ≤ n3) W (hb : Below w.heap.size w W) => readingsP x a1 n1 c1 a2 n2 c2 a3 n3 c3 W (h.mono (Nat.le_refl _) hb) hv lo hi hlh (by omega) h32)
    have HSM := Lib.hid (fun lo hi (hh : hi - lo ≤ 1048576) => rdsL_small (x := x) (lo := lo) (hi := hi) hle hh)
    have HOUT := Lib.hid (fun h2 => rdsE_out (x := x) (lo := lo) (hi := hi) hok h2)
    have HIN := Lib.hid (fun lo hi h2 h3 => rdsE_in (x := x) (lo := lo) (hi := hi) hok h2 h3)
    rw [hok] at HCK
    unfold collV at HCK HRS ⊢
    rw [hl3] at HOUT HIN
    clear h hc1 hev hok hv
    by_cases q1 : lo < 0
    · have t1 : decide (lo < 0) = true := by simpa using q1
      have HE := Lib.hid (HOUT.out (.inl q1))
      go_enter Tryz.func30, Tryz.ntmps30
      obtain ⟨k0, k1, k2, k3⟩ := HBX.out
      go_wp2_with (fail)
      refine (HCK.out _ HB4.out).mono ?_
      rintro e w1 ⟨rfl, hb1⟩
      clear k0 k1 k2 k3
      have HB1 := Lib.hid (bstep HB4.out hb1)
      go_wp2_with (fail)
      go_ret2
      rw [HE.out]
      exact ⟨_, _, _, rfl, SlM.nil _ _, HB1.out⟩
    · have t1 : decide (lo < 0) = false := by simpa using q1
      by_cases q2 : hi < lo
      · have t2 : decide (hi < lo) = true := by simpa using q2
        have HE := Lib.hid (HOUT.out (.inr (.inl q2)))
        go_enter Tryz.func30, Tryz.ntmps30
        obtain ⟨k0, k1, k2, k3⟩ := HBX.out
        go_wp2_with (fail)
        refine (HCK.out _ HB4.out).mono ?_
        rintro e w1 ⟨rfl, hb1⟩
        clear k0 k1 k2 k3
        have HB1 := Lib.hid (bstep HB4.out hb1)
        go_wp2_with (fail)
        go_ret2
        rw [HE.out]
        exact ⟨_, _, _, rfl, SlM.nil _ _, HB1.out⟩
      · have t2 : decide (hi < lo) = false := by simpa using q2
        by_cases q3 : (n3 : Int) < hi
        · have t3 : decide ((n3 : Int) < hi) = true := by simpa using q3
          have HE := Lib.hid (HOUT.out (.inr (.inr q3)))
          go_enter Tryz.func30, Tryz.ntmps30
          obtain ⟨k0, k1, k2, k3⟩ := HBX.out
          go_wp2_with (fail)
          refine (HCK.out _ HB4.out).mono ?_
          rintro e w1 ⟨rfl, hb1⟩
          clear k0 k1 k2 k3
          obtain ⟨k0, k1, k2, k3⟩ := HBX.out.below hb1
          have HB1 := Lib.hid (bstep HB4.out hb1)
          go_wp2_with (fail)
          go_ret2
          rw [HE.out]
          exact ⟨_, _, _, rfl, SlM.nil _ _, HB1.out⟩
        · have t3 : decide ((n3 : Int) < hi) = false := by simpa using q3
          obtain ⟨lo, rfl⟩ := Int.eq_ofNat_of_zero_le (show 0 ≤ lo by omega)
          obtain ⟨hi, rfl⟩ := Int.eq_ofNat_of_zero_le (show 0 ≤ hi by omega)
          have HE := Lib.hid (HIN.out lo hi (by omega) (by omega))
          have d1 : decide (hi < lo) = false := by simp; omega
          have d2 : decide (n3 < hi) = false := by simp; omega
          clear t1 q1
          go_enter Tryz.func30, Tryz.ntmps30
          obtain ⟨k0, k1, k2, k3⟩ := HBX.out
          go_wp2_with (fail)
          refine (HCK.out _ HB4.out).mono ?_
          rintro e w1 ⟨rfl, hb1⟩
          clear k0 k1 k2 k3
          obtain ⟨k0, k1, k2, k3⟩ := HBX.out.below hb1
          have HB1 := Lib.hid (bstep HB4.out hb1)
          clear hb1
          go_wp2_with (fail)
          refine (HRS.out lo hi (by omega) (by omega) _ HB1.out).mono ?_
          rintro e w2 ⟨z, rfl, hz, hb2⟩
          obtain ⟨a9, k9, rfl, hr9⟩ := hz.rdgs (HSM.out lo hi (by omega))
          have HR9 := Lib.hid hr9
          obtain ⟨n9, hn9⟩ : ∃ n9, (rdsL x lo hi).length = n9 := ⟨_, rfl⟩
          rw [hn9] at HR9 ⊢
          clear hz hr9 hn9 k0 k1 k2 k3
          go_wp2_with (fail)
          go_ret2
          rw [HE.out]
          exact ⟨_, _, _, rfl, HR9.out, bstep HB1.out hb2⟩
  · have HE := Lib.hid (rdsE_bad (lo := lo) (hi := hi) hok)
    have dn : (collC x != 0) = true := by simpa using hok
    obtain ⟨cc, hcc⟩ : ∃ cc, collC x = cc := ⟨_, rfl⟩
    rw [hcc] at HCK dn
    unfold collV at HCK ⊢
    clear h hc1 hev hok hcc
    go_enter Tryz.func30, Tryz.ntmps30
    obtain ⟨q0, q1, q2, q3⟩ := HBX.out
    go_wp2_with (fail)
    refine (HCK.out _ HB4.out).mono ?_
    rintro e w1 ⟨rfl, hb1⟩
    clear q0 q1 q2 q3
    go_wp2_with (fail)
    go_ret2
    rw [HE.out]
    exact ⟨_, _, _, rfl, SlM.nil _ _, bstep HB4.out hb1⟩
set_option maxRecDepth 100000 in
set_option maxHeartbeats 4000000 in
theorem readsR (x : Coll) (a1 : Option Addr) (n1 c1 : Nat) (a2 : Option Addr) (n2 c2 : Nat) (a3 : Option Addr) (n3 c3 : Nat) (w : World) (h : CollM w a1 a2 a3 n1 n2 n3 x) (h32 : x.columns.length ≤ 1048576) (lo hi : Int) :
    Calls Tryz.prog 31 #[collV x.sec a1 n1 c1 a2 n2 c2 a3 n3 c3, .int .i64 lo, .int .i64 hi] w (GivesR w (rdsE x lo hi)) := by
  have hl3 := h.columns.len
  have HCK := Lib.hid (fun W (hb : Below w.heap.size w W) => collR x a1 n1 c1 a2 n2 c2 a3 n3 c3 W (h.mono (Nat.le_refl _) hb))
  have HB4 := Lib.hid (balloc w (.cells #[.string (bs x.sec), .slice a1 n1 c1, .slice a2 n2 c2, .slice a3 n3 c3] 26))
  have HBX := Lib.hid (BoxC.new w x.sec a1 n1 c1 a2 n2 c2 a3 n3 c3)
  by_cases hok : collC x = 0
  · have hv := val_of hok
    have hle := hv.le
    have HRS := Lib.hid (fun (lo hi : Nat) (hlh : lo ≤ hi) (hh : hi ≤ n3) W (hb : Below w.heap.size w W) => readingsR x a1 n1 c1 a2 n2 c2 a3 n3 c3 W (h.mono (Nat.le_refl _) hb) hv lo hi hlh (by omega) h32)
    have HSM := Lib.hid (fun lo hi (hh : hi - lo ≤ 1048576) => rdsL_small (x := x) (lo := lo) (hi := hi) hle hh)
    have HOUT := Lib.hid (fun h2 => rdsE_out (x := x) (lo := lo) (hi := hi) hok h2)
    have HIN := Lib.hid (fun lo hi h2 h3 => rdsE_in (x := x) (lo := lo) (hi := hi) hok h2 h3)
    rw [hok] at HCK
    unfold collV at HCK HRS ⊢
    rw [hl3] at HOUT HIN
    clear h hok hv
    by_cases q1 : lo < 0
    · have t1 : decide (lo < 0) = true := by simpa using q1
      have HE := Lib.hid (HOUT.out (.inl q1))
      go_enter Tryz.func31, Tryz.ntmps31
      obtain ⟨k0, k1, k2, k3⟩ := HBX.out
      go_wp2_with (fail)
      refine (HCK.out _ HB4.out).mono ?_
      rintro e w1 ⟨rfl, hb1⟩
      clear k0 k1 k2 k3
      have HB1 := Lib.hid (bstep HB4.out hb1)
      go_wp2_with (fail)
      go_ret2
      rw [HE.out]
      exact ⟨_, _, _, rfl, SlM.nil _ _, bstep HB1.out (balloc _ _)⟩
    · have t1 : decide (lo < 0) = false := by simpa using q1
      by_cases q2 : hi < lo
      · have t2 : decide (hi < lo) = true := by simpa using q2
        have HE := Lib.hid (HOUT.out (.inr (.inl q2)))
        go_enter Tryz.func31, Tryz.ntmps31
        obtain ⟨k0, k1, k2, k3⟩ := HBX.out
        go_wp2_with (fail)
        refine (HCK.out _ HB4.out).mono ?_
        rintro e w1 ⟨rfl, hb1⟩
        clear k0 k1 k2 k3
        have HB1 := Lib.hid (bstep HB4.out hb1)
        go_wp2_with (fail)
        go_ret2
        rw [HE.out]
        exact ⟨_, _, _, rfl, SlM.nil _ _, bstep HB1.out (balloc _ _)⟩
      · have t2 : decide (hi < lo) = false := by simpa using q2
        by_cases q3 : (n3 : Int) < hi
        · have t3 : decide ((n3 : Int) < hi) = true := by simpa using q3
          have HE := Lib.hid (HOUT.out (.inr (.inr q3)))
          go_enter Tryz.func31, Tryz.ntmps31
          obtain ⟨k0, k1, k2, k3⟩ := HBX.out
          go_wp2_with (fail)
          refine (HCK.out _ HB4.out).mono ?_
          rintro e w1 ⟨rfl, hb1⟩
          clear k0 k1 k2 k3
          obtain ⟨k0, k1, k2, k3⟩ := HBX.out.below hb1
          have HB1 := Lib.hid (bstep HB4.out hb1)
          go_wp2_with (fail)
          go_ret2
          rw [HE.out]
          exact ⟨_, _, _, rfl, SlM.nil _ _, bstep HB1.out (balloc _ _)⟩
        · have t3 : decide ((n3 : Int) < hi) = false := by simpa using q3
          obtain ⟨lo, rfl⟩ := Int.eq_ofNat_of_zero_le (show 0 ≤ lo by omega)
          obtain ⟨hi, rfl⟩ := Int.eq_ofNat_of_zero_le (show 0 ≤ hi by omega)
          have HE := Lib.hid (HIN.out lo hi (by omega) (by omega))
          have d1 : decide (hi < lo) = false := by simp; omega
          have d2 : decide (n3 < hi) = false := by simp; omega
          clear t1 q1
          go_enter Tryz.func31, Tryz.ntmps31
          obtain ⟨k0, k1, k2, k3⟩ := HBX.out
          go_wp2_with (fail)
          refine (HCK.out _ HB4.out).mono ?_
          rintro e w1 ⟨rfl, hb1⟩
          clear k0 k1 k2 k3
          obtain ⟨k0, k1, k2, k3⟩ := HBX.out.below hb1
          have HB1 := Lib.hid (bstep HB4.out hb1)
          clear hb1
          go_wp2_with (fail)
          refine (HRS.out lo hi (by omega) (by omega) _ HB1.out).mono ?_
          rintro e w2 ⟨z, rfl, hz, hb2⟩
          obtain ⟨a9, k9, rfl, hr9⟩ := hz.rdgs (HSM.out lo hi (by omega))
          have HR9 := Lib.hid hr9
          obtain ⟨n9, hn9⟩ : ∃ n9, (rdsL x lo hi).length = n9 := ⟨_, rfl⟩
          rw [hn9] at HR9 ⊢
          clear hz hr9 hn9 k0 k1 k2 k3
          go_wp2_with (fail)
          go_ret2
          rw [HE.out]
          exact ⟨_, _, _, rfl, HR9.out, bstep HB1.out hb2⟩
  · have HE := Lib.hid (rdsE_bad (lo := lo) (hi := hi) hok)
    have dn : (collC x != 0) = true := by simpa using hok
    obtain ⟨cc, hcc⟩ : ∃ cc, collC x = cc := ⟨_, rfl⟩
    rw [hcc] at HCK dn
    unfold collV at HCK ⊢
    clear h hok hcc
    go_enter Tryz.func31, Tryz.ntmps31
    obtain ⟨q0, q1, q2, q3⟩ := HBX.out
    go_wp2_with (fail)
    refine (HCK.out _ HB4.out).mono ?_
    rintro e w1 ⟨rfl, hb1⟩
    clear q0 q1 q2 q3
    go_wp2_with (fail)
    go_ret2
    rw [HE.out]
    exact ⟨_, _, _, rfl, SlM.nil _ _, bstep (bstep HB4.out hb1) (balloc _ _)⟩
end Go.Proofs.YthfppkcefnmdoaaGreatDoor
