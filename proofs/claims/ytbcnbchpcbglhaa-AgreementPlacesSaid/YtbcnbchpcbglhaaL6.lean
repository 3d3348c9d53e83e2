/-
  The walk of AgreementTables.
-/
import Derived.Test.YtbcnbchpcbglhaaW13
namespace Go.Proofs.Ytbcnbchpcbglhaa
open Go.RowKit Go.Ap Go.Shelf Go.Proofs

theorem sameB_self (X : List (List Int)) : sameB X X = true := by unfold sameB; exact beq_self_eq_true _
theorem eqL_self (X : List Int) : eqL X X = true := by unfold eqL; exact beq_self_eq_true _

set_option maxRecDepth 100000 in
set_option maxHeartbeats 4000000 in
theorem law6 (a : Option Addr) (n c : Nat) (S : List (List Int)) (w : World) (h : Rows2 w a n S) :
    Calls Try.prog 6 #[.slice a n c] w fun e w' => e = .returned (.bool true) ∧ Below w.heap.size w w' := by
  have H11 := great11 a n c S w h
  have HH := Lib.hid h
  obtain ⟨m, hm⟩ : ∃ m, m = (row S 0).length := ⟨_, rfl⟩
  have HM := Lib.hid hm
  clear h hm
  cases hg : great S
  · rw [hg] at H11
    have H11 := Lib.hid H11
    clear hg
    go_enter Try.func6, Try.ntmps6
    go_wp2_with (fail)
    refine (H11.out).mono ?_
    rintro e w' ⟨rfl, rfl⟩
    have T1 := Lib.hid (fun W (hb : Below w.heap.size w W) => matrix23 a n c m S W (HH.out.mono (Nat.le_refl _) hb) HM.out)
    have T2 := Lib.hid (fun W (hb : Below w.heap.size w W) => refmat28 a n c m S W (HH.out.mono (Nat.le_refl _) hb) HM.out)
    have T3 := Lib.hid (fun W (hb : Below w.heap.size w W) => compared29 a n c m S W (HH.out.mono (Nat.le_refl _) hb) HM.out)
    have T4 := Lib.hid (fun W (hb : Below w.heap.size w W) => refcmp30 a n c m S W (HH.out.mono (Nat.le_refl _) hb) HM.out)
    have T5 := Lib.hid (fun W (hb : Below w.heap.size w W) => distances24 a n c m S W (HH.out.mono (Nat.le_refl _) hb) HM.out)
    have T6 := Lib.hid (fun W (hb : Below w.heap.size w W) => refdst31 a n c m S W (HH.out.mono (Nat.le_refl _) hb) HM.out)
    have T7 := Lib.hid (fun W (hb : Below w.heap.size w W) => check32 a n c S W (HH.out.mono (Nat.le_refl _) hb))
    have T8 := Lib.hid (fun W (hb : Below w.heap.size w W) => check33 a n c S W (HH.out.mono (Nat.le_refl _) hb))
    generalize tabR (agrF S m) S = X at *
    generalize tabR (cmpF S m) S = Y at *
    generalize tabR (rdsF S m) S = Z at *
    generalize errR S = E at *
    generalize chkS S = C at *
    go_wp2_with (fail)
    refine (T1.out _ (Below.refl _ _)).mono ?_
    rintro e w1 ⟨a1, n1, c1, rfl, i1, b1⟩
    have I1 := Lib.hid i1
    have B1 := Lib.hid b1
    clear i1 b1
    go_wp2_with (fail)
    refine (T2.out _ B1.out).mono ?_
    rintro e w2 ⟨a2, n2, c2, rfl, i2, b2⟩
    have I2 := Lib.hid i2
    have B2 := Lib.hid (bstep B1.out b2)
    have K2 := Lib.hid b2
    clear i2 b2
    go_wp2_with (fail)
    refine (T3.out _ B2.out).mono ?_
    rintro e w3 ⟨a3, n3, c3, rfl, i3, b3⟩
    have I3 := Lib.hid i3
    have B3 := Lib.hid (bstep B2.out b3)
    have K3 := Lib.hid b3
    clear i3 b3
    go_wp2_with (fail)
    refine (T4.out _ B3.out).mono ?_
    rintro e w4 ⟨a4, n4, c4, rfl, i4, b4⟩
    have I4 := Lib.hid i4
    have B4 := Lib.hid (bstep B3.out b4)
    have K4 := Lib.hid b4
    clear i4 b4
    go_wp2_with (fail)
    refine (T5.out _ B4.out).mono ?_
    rintro e w5 ⟨a5, n5, c5, rfl, i5, b5⟩
    have I5 := Lib.hid i5
    have B5 := Lib.hid (bstep B4.out b5)
    have K5 := Lib.hid b5
    clear i5 b5
    go_wp2_with (fail)
    refine (T6.out _ B5.out).mono ?_
    rintro e w6 ⟨a6, n6, c6, rfl, i6, b6⟩
    have I6 := Lib.hid i6
    have B6 := Lib.hid (bstep B5.out b6)
    have K6 := Lib.hid b6
    clear i6 b6
    go_wp2_with (fail)
    refine (T7.out _ B6.out).mono ?_
    rintro e w' ⟨rfl, q7, rfl⟩
    go_wp2_with (fail)
    refine (T8.out _ (bstep B6.out (bdrewN _ _))).mono ?_
    rintro e w' ⟨rfl, q8, rfl⟩
    rw [drewN2]
    have hC : (C == C) = true := beq_self_eq_true C
    have hE : (E == E) = true := beq_self_eq_true E
    obtain ⟨w7, hw7⟩ : ∃ w7, w6.drewN (q7 + q8) = w7 := ⟨_, rfl⟩
    have K7 := Lib.hid (show Below w6.heap.size w6 w7 by rw [← hw7]; exact bdrewN _ _)
    rw [hw7]
    clear hw7
    go_wp2_with (fail)
    have M3 := bstep K4.out (bstep K5.out (bstep K6.out K7.out))
    refine (same19 _ _ _ _ _ _ _ _ _ (I1.out.mono (Nat.le_refl _) (bstep K2.out (bstep K3.out M3))) (I2.out.mono (Nat.le_refl _) (bstep K3.out M3))).mono ?_
    rintro e w' ⟨rfl, q9, rfl⟩
    rw [sameB_self]
    clear M3
    go_wp2_with (fail)
    have M5 := bstep K6.out (bstep K7.out (bdrewN w7 q9))
    refine (same19 _ _ _ _ _ _ _ _ _ (I3.out.mono (Nat.le_refl _) (bstep K4.out (bstep K5.out M5))) (I4.out.mono (Nat.le_refl _) (bstep K5.out M5))).mono ?_
    rintro e w' ⟨rfl, q10, rfl⟩
    rw [sameB_self, drewN2]
    clear M5
    go_wp2_with (fail)
    have M7 := bstep K7.out (bdrewN w7 (q9 + q10))
    refine (same19 _ _ _ _ _ _ _ _ _ (I5.out.mono (Nat.le_refl _) (bstep K6.out M7)) (I6.out.mono (Nat.le_refl _) M7)).mono ?_
    rintro e w' ⟨rfl, q11, rfl⟩
    rw [sameB_self, drewN2]
    clear M7
    go_wp2_with (fail)
    refine (awake12 _).mono ?_
    rintro e w9 ⟨rfl, k9⟩
    go_wp2_with (fail)
    go_ret
    exact ⟨rfl, bstep B6.out (bstep K7.out (bstep (bdrewN _ _) k9))⟩
  · rw [hg] at H11
    have H11 := Lib.hid H11
    clear hg
    go_enter Try.func6, Try.ntmps6
    go_wp2_with (fail)
    refine (H11.out).mono ?_
    rintro e w' ⟨rfl, rfl⟩
    go_wp2_with (fail)
    refine (awake12 _).mono ?_
    rintro e w2 ⟨rfl, hb2⟩
    go_wp2_with (fail)
    go_ret
    exact ⟨rfl, hb2⟩

end Go.Proofs.Ytbcnbchpcbglhaa
