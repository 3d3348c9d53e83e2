/-
  The walk of AgreementGroups.
-/
import Derived.Test.YtbcnbchpcbglhaaR3
namespace Go.Proofs.Ytbcnbchpcbglhaa
open Go.RowKit Go.Ap Go.Shelf Go.Proofs

set_option maxRecDepth 100000 in
set_option maxHeartbeats 4000000 in
theorem law3 (a : Option Addr) (n c : Nat) (S : List (List Int)) (i most : Int) (b : Option Addr) (k d : Nat) (src : List Int) (w : World) (h : Rows2 w a n S) (hi : I64 i) (_ : I64 most) (hs : Ints w b k src) :
    Calls Try.prog 3 #[.slice a n c, .int .i64 i, .int .i64 most, .slice b k d] w fun e w' => e = .returned (.bool true) ∧ Below w.heap.size w w' := by
  have H11 := great11 a n c S w h
  have hks := hs.small
  have HH := Lib.hid h
  have HS := Lib.hid hs
  obtain ⟨m, hm⟩ : ∃ m, m = (row S 0).length := ⟨_, rfl⟩
  have HM := Lib.hid hm
  clear h hm hs
  have key : (great S = true ∨ 10 < k) ∨ (great S = false ∧ ¬ 10 < k) := by
    cases great S
    · by_cases h : 10 < k
      · exact .inl (.inr h)
      · exact .inr ⟨rfl, h⟩
    · exact .inl (.inl rfl)
  rcases key with (hg | hg) | ⟨hg, h10⟩
  · rw [hg] at H11
    have H11 := Lib.hid H11
    clear hg
    go_enter Try.func3, Try.ntmps3
    go_wp2_with (fail)
    refine (H11.out).mono ?_
    rintro e w' ⟨rfl, rfl⟩
    go_wp2_with (fail)
    refine (awake12 _).mono ?_
    rintro e w2 ⟨rfl, hb2⟩
    go_wp2_with (fail)
    go_ret
    exact ⟨rfl, hb2⟩
  · cases hgr : great S
    · rw [hgr] at H11
      have H11 := Lib.hid H11
      have d1 : decide (10 < (k : Int)) = true := by simp; omega
      clear hgr
      go_enter Try.func3, Try.ntmps3
      go_wp2_with (fail)
      refine (H11.out).mono ?_
      rintro e w' ⟨rfl, rfl⟩
      go_wp2_with (fail)
      refine (awake12 _).mono ?_
      rintro e w2 ⟨rfl, hb2⟩
      go_wp2_with (fail)
      go_ret
      exact ⟨rfl, hb2⟩
    · rw [hgr] at H11
      have H11 := Lib.hid H11
      clear hgr
      go_enter Try.func3, Try.ntmps3
      go_wp2_with (fail)
      refine (H11.out).mono ?_
      rintro e w' ⟨rfl, rfl⟩
      go_wp2_with (fail)
      refine (awake12 _).mono ?_
      rintro e w2 ⟨rfl, hb2⟩
      go_wp2_with (fail)
      go_ret
      exact ⟨rfl, hb2⟩
  · rw [hg] at H11
    have H11 := Lib.hid H11
    have d1 : decide (10 < (k : Int)) = false := by simp; omega
    have T1 := Lib.hid (fun W (hb : Below w.heap.size w W) => nearest13 a n c m i S W (HH.out.mono (Nat.le_refl _) hb) hi HM.out)
    have T2 := Lib.hid (fun W (hb : Below w.heap.size w W) => refnear14 a n c m i S W (HH.out.mono (Nat.le_refl _) hb) hi HM.out)
    have T3 := Lib.hid (fun W (hb : Below w.heap.size w W) => clusters15 a n c m most S W (HH.out.mono (Nat.le_refl _) hb) HM.out)
    have T4 := Lib.hid (fun W (hb : Below w.heap.size w W) => refclu16 a n c m most S W (HH.out.mono (Nat.le_refl _) hb) HM.out)
    have T5 := Lib.hid (fun W (hb : Below w.heap.size w W) => shared17 a b n c k d S src W (HH.out.mono (Nat.le_refl _) hb) (HS.out.mono (Nat.le_refl _) hb))
    have T6 := Lib.hid (fun W (hb : Below w.heap.size w W) => refshared18 a b n c k d S src W (HH.out.mono (Nat.le_refl _) hb) (HS.out.mono (Nat.le_refl _) hb))
    generalize nearV S m i = V at *
    generalize nearE S i = VE at *
    generalize cluR S m most = C at *
    generalize cluE S most = CE at *
    generalize shrL S src = R at *
    generalize shrE S src = RE at *
    have e1 : (V == V) = true := beq_self_eq_true V
    have e2 : (VE == VE) = true := beq_self_eq_true VE
    have e3 : (CE == CE) = true := beq_self_eq_true CE
    have e4 : (RE == RE) = true := beq_self_eq_true RE
    clear hg h10 hi
    go_enter Try.func3, Try.ntmps3
    go_wp2_with (fail)
    refine (H11.out).mono ?_
    rintro e w' ⟨rfl, rfl⟩
    go_wp2_with (fail)
    refine (T1.out _ (Below.refl _ _)).mono ?_
    rintro e w1 ⟨rfl, b1⟩
    have B1 := Lib.hid b1
    clear b1
    go_wp2_with (fail)
    refine (T2.out _ B1.out).mono ?_
    rintro e w' ⟨rfl, q, rfl⟩
    obtain ⟨w2, hw2⟩ : ∃ w2, w1.drewN q = w2 := ⟨_, rfl⟩
    have B2 := Lib.hid (show Below w.heap.size w w2 by rw [← hw2]; exact bstep B1.out (bdrewN _ _))
    rw [hw2]
    clear hw2
    go_wp2_with (fail)
    refine (T3.out _ B2.out).mono ?_
    rintro e w3 ⟨a3, n3, c3, rfl, i3, b3⟩
    have I3 := Lib.hid i3
    have B3 := Lib.hid (bstep B2.out b3)
    clear i3 b3
    go_wp2_with (fail)
    refine (T4.out _ B3.out).mono ?_
    rintro e w4 ⟨a4, n4, c4, rfl, i4, b4⟩
    have I4 := Lib.hid i4
    have B4 := Lib.hid (bstep B3.out b4)
    have K4 := Lib.hid b4
    clear i4 b4
    go_wp2_with (fail)
    refine (T5.out _ B4.out).mono ?_
    rintro e w5 ⟨a5, n5, c5, rfl, i5, b5⟩
    have I5 := Lib.hid i5
    have B5 := Lib.hid (bstep B4.out b5)
    have K5 := Lib.hid b5
    clear i5 b5
    go_wp2_with (fail)
    refine (T6.out _ B5.out).mono ?_
    rintro e w6 ⟨a6, n6, c6, rfl, i6, b6⟩
    have I6 := Lib.hid i6
    have B6 := Lib.hid (bstep B5.out b6)
    have K6 := Lib.hid b6
    clear i6 b6
    go_wp2_with (fail)
    refine (same19 _ _ _ _ _ _ _ _ _ (I3.out.mono (Nat.le_refl _) (bstep K4.out (bstep K5.out K6.out))) (I4.out.mono (Nat.le_refl _) (bstep K5.out K6.out))).mono ?_
    rintro e w' ⟨rfl, q9, rfl⟩
    rw [sameB_self]
    go_wp2_with (fail)
    refine (equal20 _ _ _ _ _ _ _ _ _ (I5.out.mono (Nat.le_refl _) (bstep K6.out (bdrewN _ q9))) (I6.out.mono (Nat.le_refl _) (bdrewN _ q9))).mono ?_
    rintro e w' ⟨rfl, q10, rfl⟩
    rw [eqL_self, drewN2]
    go_wp2_with (fail)
    refine (awake12 _).mono ?_
    rintro e w9 ⟨rfl, k9⟩
    go_wp2_with (fail)
    go_ret
    exact ⟨rfl, bstep B6.out (bstep (bdrewN _ _) k9)⟩

end Go.Proofs.Ytbcnbchpcbglhaa
