/-
  Check of variation: the program's way.
-/
import Derived.Test.YthfppkcefnmdoaaGreatDoorRp
import Derived.Test.YthfppkcefnmdoaaGreatDoorPU
namespace Go.Proofs.YthfppkcefnmdoaaGreatDoor
open Go.RowKit Go.Ap Go.Shelf Go.Proofs

attribute [local go_sem] Oper.semAt_some bs_toList empty_toList bs_size bs_extract
set_option maxRecDepth 100000 in
set_option maxHeartbeats 4000000 in
theorem checkU (x : Coll) (a1 : Option Addr) (n1 c1 : Nat) (a2 : Option Addr) (n2 c2 : Nat) (a3 : Option Addr) (n3 c3 : Nat) (w : World) (h : CollM w a1 a2 a3 n1 n2 n3 x) (hc1 : n1 ≤ c1) (hev : EV w) (h32 : x.columns.length ≤ 1048576)
    (a : Option Addr) (n c : Nat) (us : List Plc) (hu : Plcs w a n us) :
    Calls Tryz.prog 20 #[collV x.sec a1 n1 c1 a2 n2 c2 a3 n3 c3, .slice a n c] w fun e w' => e = .returned (.int .i64 (chkU x us)) ∧ Below w.heap.size w w' := by
  have HCK := Lib.hid (fun W (hb : Below w.heap.size w W) => collP x a1 n1 c1 a2 n2 c2 a3 n3 c3 W (h.mono (Nat.le_refl _) hb) hc1 (hev.mono (Nat.le_refl _) hb))
  have HB4 := Lib.hid (balloc w (.cells #[.string (bs x.sec), .slice a1 n1 c1, .slice a2 n2 c2, .slice a3 n3 c3] 26))
  have HBX := Lib.hid (BoxC.new w x.sec a1 n1 c1 a2 n2 c2 a3 n3 c3)
  unfold chkU
  by_cases hok : collC x = 0
  · have hv := val_of hok
    have HRI := Lib.hid (fun W (hb : Below w.heap.size w W) => callsIn_wide.1 (rightU x a1 n1 c1 a2 n2 c2 a3 n3 c3 W (h.mono (Nat.le_refl _) hb) hv h32 a n c us (Plcs.mono hu (Nat.le_refl _) hb)))
    rw [hok] at HCK
    rw [if_neg (by rw [hok]; simp)]
    unfold collV at HCK HRI ⊢
    obtain ⟨r, hr⟩ : ∃ r, rightB x us = r := ⟨_, rfl⟩
    rw [hr] at HRI ⊢
    clear h hc1 hev hok hv hu hr
    go_enter Tryz.func20, Tryz.ntmps20
    obtain ⟨q0, q1, q2, q3⟩ := HBX.out
    go_wp2_with (fail)
    refine (HCK.out _ HB4.out).mono ?_
    rintro e w1 ⟨rfl, hb1⟩
    clear q0 q1 q2 q3
    obtain ⟨q0, q1, q2, q3⟩ := HBX.out.below hb1
    have HB1 := Lib.hid (bstep HB4.out hb1)
    clear hb1
    go_wp2_with (fail)
    refine (HRI.out _ HB1.out).mono ?_
    rintro e w2 ⟨rfl, hb2⟩
    cases r
    all_goals
      go_wp2_with (fail)
      go_ret
      exact ⟨rfl, bstep HB1.out hb2⟩
  · rw [if_pos hok]
    have dn : (collC x != 0) = true := by simpa using hok
    obtain ⟨cc, hcc⟩ : ∃ cc, collC x = cc := ⟨_, rfl⟩
    rw [hcc] at HCK dn
    unfold collV at HCK ⊢
    clear h hc1 hev hok hu hcc
    go_enter Tryz.func20, Tryz.ntmps20
    obtain ⟨q0, q1, q2, q3⟩ := HBX.out
    go_wp2_with (fail)
    refine (HCK.out _ HB4.out).mono ?_
    rintro e w1 ⟨rfl, hb1⟩
    clear q0 q1 q2 q3
    go_wp2_with (fail)
    go_ret
    exact ⟨rfl, bstep HB4.out hb1⟩
end Go.Proofs.YthfppkcefnmdoaaGreatDoor
