import Derived.Test.YtcmckcmckbdmhaaW46
import Derived.Test.YtcmckcmckbdmhaaW43
namespace Go.Proofs.Ytcmckcmckbdmhaa
open Go.RowKit Go.Ap Go.Shelf

set_option maxRecDepth 100000 in
set_option maxHeartbeats 4000000 in
theorem law10_fine (a b : Option Addr) (n m c d : Nat) (z : Int) (xs : List Int) (xss : List (List Int)) (w : World) (hz : I64 z) (hx : Ints w a n xs) (hy : Rows2 w b m xss) (hn : n ≤ 12) (hg : greatL xss = false) :
    Calls Try.prog 10 #[.int .i64 z, .slice a n c, .slice b m d] w fun e w' => e = .returned (.bool true) ∧ Below w.heap.size w w' := by
  have HX := Lib.hid hx
  have HY := Lib.hid hy
  have HZ := Lib.hid hz
  have hm20 := greatL_no hg
  rw [hy.len] at hm20
  have H20 := great20 a n c w (by omega)
  rw [show decide (12 < n) = false by simp; omega] at H20
  have H20 := Lib.hid H20
  have H21 := great21 b m d xss w hy
  rw [hg] at H21
  have H21 := Lib.hid H21
  clear hx hy hz hg
  go_enter Try.func10, Try.ntmps10
  go_wp2_with (fail)
  refine (H20.out).mono ?_
  rintro e w' ⟨rfl, rfl⟩
  go_wp2_with (fail)
  refine (H21.out).mono ?_
  rintro e w' ⟨rfl, rfl⟩
  go_wp2_with (fail)
  refine (of37 a n c xs w HX.out (by omega)).mono ?_
  rintro e w1 ⟨a1, n1, c1, rfl, i1, k1⟩
  have I1 := Lib.hid i1
  have K1 := Lib.hid k1
  clear i1 k1
  go_wp2_with (fail)
  refine (refof38 a n c xs w1 (HX.out.mono (Nat.le_refl _) K1.out)).mono ?_
  rintro e w2 ⟨a2, n2, c2, rfl, i2, k2⟩
  have I2 := Lib.hid i2
  have J1 := Lib.hid (I1.out.mono (Nat.le_refl _) k2)
  have K2 := Lib.hid (bstep K1.out k2)
  clear i2 k2 I1 K1
  go_wp2_with (fail)
  refine (compl13 a n c z xs w2 HZ.out (HX.out.mono (Nat.le_refl _) K2.out)).mono ?_
  rintro e w3 ⟨a3, n3, c3, rfl, i3, k3⟩
  have I3 := Lib.hid i3
  have J11 := Lib.hid (J1.out.mono (Nat.le_refl _) k3)
  have J2 := Lib.hid (I2.out.mono (Nat.le_refl _) k3)
  have K3 := Lib.hid (bstep K2.out k3)
  clear i3 k3 I2 J1 K2
  go_wp2_with (fail)
  refine (refcompl39 a n c z xs w3 HZ.out (HX.out.mono (Nat.le_refl _) K3.out)).mono ?_
  rintro e w4 ⟨a4, n4, c4, rfl, i4, k4⟩
  have I4 := Lib.hid i4
  have J12 := Lib.hid (J11.out.mono (Nat.le_refl _) k4)
  have J22 := Lib.hid (J2.out.mono (Nat.le_refl _) k4)
  have J3 := Lib.hid (I3.out.mono (Nat.le_refl _) k4)
  have K4 := Lib.hid (bstep K3.out k4)
  clear i4 k4 I3 J2 J11 K3
  go_wp2_with (fail)
  refine (part30 b m d z xss w4 HZ.out (HY.out.mono (Nat.le_refl _) K4.out) (by omega)).mono ?_
  rintro e w5 ⟨rfl, k5⟩
  have K5 := Lib.hid (bstep K4.out k5)
  have L1 := Lib.hid (J12.out.mono (Nat.le_refl _) k5)
  have L2 := Lib.hid (J22.out.mono (Nat.le_refl _) k5)
  have L3 := Lib.hid (J3.out.mono (Nat.le_refl _) k5)
  have L4 := Lib.hid (I4.out.mono (Nat.le_refl _) k5)
  clear k5 J12 J22 J3 I4 K4
  go_wp2_with (fail)
  refine (refpart40 b m d z xss w5 HZ.out (HY.out.mono (Nat.le_refl _) K5.out) (by omega)).mono ?_
  rintro e w6 ⟨rfl, k6⟩
  have K6 := Lib.hid (bstep K5.out k6)
  have M1 := Lib.hid (L1.out.mono (Nat.le_refl _) k6)
  have M2 := Lib.hid (L2.out.mono (Nat.le_refl _) k6)
  have M3 := Lib.hid (L3.out.mono (Nat.le_refl _) k6)
  have M4 := Lib.hid (L4.out.mono (Nat.le_refl _) k6)
  have X6 := Lib.hid (HX.out.mono (Nat.le_refl _) K6.out)
  clear k6 L1 L2 L3 L4 K5
  go_wp2_with (fail)
  refine (check_any a n c xs w6 X6.out).mono ?_
  rintro e w' ⟨rfl, rfl⟩
  go_wp2_with (fail)
  refine (refcheck_any a n c xs w6 X6.out).mono ?_
  rintro e w' ⟨rfl, q, rfl⟩
  have N1 := Lib.hid (M1.out.drewN (q := q))
  have N2 := Lib.hid (M2.out.drewN (q := q))
  have N3 := Lib.hid (M3.out.drewN (q := q))
  have N4 := Lib.hid (M4.out.drewN (q := q))
  have K7 := Lib.hid (bstep K6.out (bdrewN w6 q))
  clear M1 M2 M3 M4 X6 K6
  generalize partR z xss = pr
  generalize partE z xss = pe
  generalize chk xs = ck
  generalize ofE xs = oe
  generalize complE z xs = ce
  generalize w6.drewN q = w7 at *
  go_wp2_with (fail)
  have h1 := equal16 a1 a2 n1 n2 c1 c2 _ _ w7 N1.out N2.out
  rw [beq_self_eq_true] at h1
  refine h1.mono ?_
  clear h1
  rintro e w' ⟨rfl, q4, rfl⟩
  go_wp2_with (fail)
  have h1 := equal16 a3 a4 n3 n4 c3 c4 _ _ (w7.drewN q4) N3.out.drewN N4.out.drewN
  rw [beq_self_eq_true] at h1
  refine h1.mono ?_
  clear h1
  rintro e w' ⟨rfl, q5, rfl⟩
  cases pr
  all_goals
    go_wp2_with (fail)
    refine (awake12 _).mono ?_
    rintro e w8 ⟨rfl, k8⟩
    go_wp2_with (fail)
    go_ret
    exact ⟨rfl, bstep (bstep K7.out (bdrewN w7 _)) k8⟩

theorem law10 (a b : Option Addr) (n m c d : Nat) (z : Int) (xs : List Int) (xss : List (List Int)) (w : World) (hz : I64 z) (hx : Ints w a n xs) (hy : Rows2 w b m xss) :
    Calls Try.prog 10 #[.int .i64 z, .slice a n c, .slice b m d] w fun e w' => e = .returned (.bool true) ∧ Below w.heap.size w w' := by
  have hs := hx.small
  have H20 := great20 a n c w (by omega)
  have H21 := great21 b m d xss w hy
  by_cases hn : 12 < n
  · rw [show decide (12 < n) = true by simpa using hn] at H20
    have H20 := Lib.hid H20
    clear hx hy hz H21
    go_enter Try.func10, Try.ntmps10
    go_wp2_with (fail)
    refine (H20.out).mono ?_
    rintro e w' ⟨rfl, rfl⟩
    go_wp2_with (fail)
    refine (awake12 _).mono ?_
    rintro e w8 ⟨rfl, k8⟩
    go_wp2_with (fail)
    go_ret
    exact ⟨rfl, k8⟩
  · cases hg : greatL xss
    · exact law10_fine a b n m c d z xs xss w hz hx hy (by omega) hg
    · rw [show decide (12 < n) = false by simpa using hn] at H20
      rw [hg] at H21
      have H20 := Lib.hid H20
      have H21 := Lib.hid H21
      clear hx hy hz hg
      go_enter Try.func10, Try.ntmps10
      go_wp2_with (fail)
      refine (H20.out).mono ?_
      rintro e w' ⟨rfl, rfl⟩
      go_wp2_with (fail)
      refine (H21.out).mono ?_
      rintro e w' ⟨rfl, rfl⟩
      go_wp2_with (fail)
      refine (awake12 _).mono ?_
      rintro e w8 ⟨rfl, k8⟩
      go_wp2_with (fail)
      go_ret
      exact ⟨rfl, k8⟩

end Go.Proofs.Ytcmckcmckbdmhaa
