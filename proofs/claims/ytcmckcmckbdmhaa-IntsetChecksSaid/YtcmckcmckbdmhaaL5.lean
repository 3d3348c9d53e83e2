import Derived.Test.YtcmckcmckbdmhaaL3
namespace Go.Proofs.Ytcmckcmckbdmhaa
open Go.RowKit Go.Ap Go.Shelf

/-- what Within answers -/
def withinB (xs ys : List Int) : Bool := combE xs ys == 0 && (combR (fun x y => x && !y) xs ys).length == 0

theorem within19 (a b : Option Addr) (n m c d : Nat) (xs ys : List Int) (w : World) (hx : Ints w a n xs) (hy : Ints w b m ys) :
    Calls Try.prog 19 #[.slice a n c, .slice b m d] w fun e w' => e = .returned (.tuple #[.bool (withinB xs ys), .int .i64 (combE xs ys)]) ∧ Below w.heap.size w w' := by
  have H := Lib.hid (minus18 a b n m c d xs ys w hx hy)
  go_enter Try.func19, Try.ntmps19
  go_wp2_with (fail)
  refine (H.out).mono ?_
  rintro e w1 ⟨a1, n1, c1, rfl, i1, k1⟩
  have HL := Lib.hid i1.len
  clear i1 hx hy
  by_cases h0 : combE xs ys = 0
  · have hb : (combE xs ys == 0) = true := by simpa using h0
    by_cases hn : n1 = 0
    · subst hn
      have hw : withinB xs ys = true := by rw [withinB, hb, HL.out]; rfl
      have HW := Lib.hid hw
      clear hw h0
      go_wp2_with (fail)
      go_ret2
      exact ⟨by rw [HW.out]; rfl, k1⟩
    · have hw : withinB xs ys = false := by rw [withinB, hb, HL.out]; simpa using hn
      have hb2 : ((n1 : Int) == 0) = false := by rw [beq_eq_false_iff_ne]; omega
      have HW := Lib.hid hw
      clear hw h0
      go_wp2_with (fail)
      go_ret2
      exact ⟨by rw [HW.out]; rfl, k1⟩
  · have hb : (combE xs ys == 0) = false := by simpa using h0
    have hw : withinB xs ys = false := by rw [withinB, hb]; rfl
    have HW := Lib.hid hw
    clear hw h0
    go_wp2_with (fail)
    go_ret2
    exact ⟨by rw [HW.out]; rfl, k1⟩

theorem sub_union {xs ys : List Int} (hx : SetL xs) (hy : SetL ys) : (comb (fun x y => x || y) xs ys == ys) = ((comb (fun x y => x && !y) xs ys).length == 0) := by
  rw [Bool.eq_iff_iff, beq_iff_eq, beq_iff_eq]
  constructor
  · intro h
    refine List.length_eq_zero_iff.2 (List.eq_nil_iff_forall_not_mem.2 fun k hk => ?_)
    have h1 := comb_contains (fun x y => x && !y) xs ys k
    rw [List.contains_iff_mem.2 hk] at h1
    have h2 := comb_contains (fun x y => x || y) xs ys k
    rw [h] at h2
    revert h1 h2
    cases decide (0 ≤ k ∧ k < 64) <;> cases xs.contains k <;> cases ys.contains k <;> simp
  · intro h
    have h0 := List.length_eq_zero_iff.1 h
    refine setL_ext (comb_setL _ _ _) hy fun k => ?_
    rw [comb_contains, ← setL_in hy k]
    have h1 := comb_contains (fun x y => x && !y) xs ys k
    rw [h0] at h1
    have h2 := setL_in hx k
    revert h1 h2
    cases decide (0 ≤ k ∧ k < 64) <;> cases xs.contains k <;> cases ys.contains k <;> simp

set_option maxRecDepth 100000 in
set_option maxHeartbeats 2000000 in
theorem law5 (a b : Option Addr) (n m c d : Nat) (xs ys : List Int) (w : World) (hx : Ints w a n xs) (hy : Ints w b m ys) :
    Calls Try.prog 5 #[.slice a n c, .slice b m d] w fun e w' => e = .returned (.bool true) ∧ Below w.heap.size w w' := by
  have H0 := Lib.hid (fine_two a b n m c d xs ys w hx hy)
  have HX := Lib.hid hx
  have HY := Lib.hid hy
  cases hbad : (bad1 xs || bad1 ys)
  · rw [hbad] at H0
    obtain ⟨b1, b2⟩ := Bool.or_eq_false_iff.1 hbad
    have S1 := Lib.hid (bad1_no b1).2
    have S2 := Lib.hid (bad1_no b2).2
    clear hbad b1 b2 hx hy
    have hmax : ∀ w, (Builtin.max_ #[25, 25, 25] 25 #[.int .i64 0, .int .i64 0, .int .i64 0]).run Try.prog w = .ok (.int .i64 0) w := fun _ => by kernel_rfl
    go_enter Try.func5, Try.ntmps5
    go_wp2_with (fail)
    refine (H0.out).mono ?_
    rintro e w0 ⟨rfl, k0⟩
    go_wp2_with (fail)
    have h1 := within19 a b n m c d xs ys w0 (HX.out.mono (Nat.le_refl _) k0) (HY.out.mono (Nat.le_refl _) k0)
    rw [withinB, combE_setL S1.out S2.out, combR_setL S1.out S2.out, beq_self_eq_true, Bool.true_and] at h1
    refine h1.mono ?_
    clear h1
    rintro e w1 ⟨rfl, k1⟩
    go_wp2_with (fail)
    have h1 := union14 a b n m c d xs ys w1 (HX.out.mono (Nat.le_refl _) (bstep k0 k1)) (HY.out.mono (Nat.le_refl _) (bstep k0 k1))
    rw [combE_setL S1.out S2.out, combR_setL S1.out S2.out] at h1
    refine h1.mono ?_
    clear h1
    rintro e w2 ⟨a2, n2, c2, rfl, i2, k2⟩
    have I2 := Lib.hid i2
    clear i2
    go_wp2_with (fail)
    have k02 := bstep k0 (bstep k1 k2)
    have h1 := minus18 a b n m c d xs ys w2 (HX.out.mono (Nat.le_refl _) k02) (HY.out.mono (Nat.le_refl _) k02)
    rw [combE_setL S1.out S2.out, combR_setL S1.out S2.out] at h1
    refine h1.mono ?_
    clear h1
    rintro e w3 ⟨a3, n3, c3, rfl, i3, k3⟩
    have HL3 := Lib.hid i3.len
    clear i3
    go_wp2_with (fail)
    have h1 := equal16 a2 b n2 m c2 d _ _ w3 (I2.out.mono (Nat.le_refl _) k3) (HY.out.mono (Nat.le_refl _) (bstep k02 k3))
    rw [sub_union S1.out S2.out] at h1
    refine h1.mono ?_
    clear h1
    rintro e w4 ⟨rfl, q, rfl⟩
    have hlen : (((n3 : Nat) : Int) == 0) = ((comb (fun x y => x && !y) xs ys).length == 0) := by
      rw [HL3.out, Bool.eq_iff_iff, beq_iff_eq, beq_iff_eq]; omega
    revert hlen
    generalize ((comb (fun x y => x && !y) xs ys).length == 0) = r
    intro hlen
    cases r
    all_goals
      go_wp2_with (fail)
      refine (awake12 _).mono ?_
      rintro e w5 ⟨rfl, k5⟩
      go_wp2_with (fail)
      go_ret
      exact ⟨rfl, bstep k02 (bstep k3 (bstep (bdrewN _ _) k5))⟩
  · rw [hbad] at H0
    clear hbad hx hy
    go_enter Try.func5, Try.ntmps5
    go_wp2_with (fail)
    refine (H0.out).mono ?_
    rintro e w1 ⟨rfl, hb1⟩
    go_wp2_with (fail)
    refine (awake12 _).mono ?_
    rintro e w2 ⟨rfl, hb2⟩
    go_wp2_with (fail)
    go_ret
    exact ⟨rfl, bstep hb1 hb2⟩

end Go.Proofs.Ytcmckcmckbdmhaa
