import Derived.Test.YtcmckcmckbdmhaaL6
namespace Go.Proofs.Ytcmckcmckbdmhaa
open Go.RowKit Go.Ap Go.Shelf

theorem contains29h (a : Option Addr) (n c : Nat) (xs : List Int) (x : Int) (w : World) (hx : Ints w a n xs) :
    Calls Try.prog 29 #[.slice a n c, .int .i64 x] w fun e w' => e = .returned (.bool (hasI xs x)) ∧ w = w' := contains29 a n c xs x w hx

theorem hasI_comb (f : Bool → Bool → Bool) (xs ys : List Int) (k : Nat) (hk : k < 64) : hasI (comb f xs ys) k = f (hasI xs k) (hasI ys k) := by
  rw [hasI, comb_contains]
  simp only [hasI]
  rw [show (decide (0 ≤ (k : Int) ∧ (k : Int) < 64)) = true by simp; omega, Bool.true_and]

set_option maxRecDepth 100000 in
set_option maxHeartbeats 2000000 in
theorem law7 (a b : Option Addr) (n m c d : Nat) (xs ys : List Int) (w : World) (hx : Ints w a n xs) (hy : Ints w b m ys) :
    Calls Try.prog 7 #[.slice a n c, .slice b m d] w fun e w' => e = .returned (.bool true) ∧ Below w.heap.size w w' := by
  have H0 := Lib.hid (fine_two a b n m c d xs ys w hx hy)
  have HX := Lib.hid hx
  have HY := Lib.hid hy
  cases hbad : (bad1 xs || bad1 ys)
  · rw [hbad] at H0
    obtain ⟨b1, b2⟩ := Bool.or_eq_false_iff.1 hbad
    have S1 := Lib.hid (bad1_no b1).2
    have S2 := Lib.hid (bad1_no b2).2
    clear hbad b1 b2 hx hy
    have hmax : ∀ w, (Builtin.max_ #[25, 25, 25] 25 #[.int .i64 0, .int .i64 0, .int .i64 0]).run Try.prog w = .ok (.int .i64 0) w := fun _ => by kernel_rfl
    go_enter Try.func7, Try.ntmps7
    go_wp2_with (fail)
    refine (H0.out).mono ?_
    rintro e w0 ⟨rfl, k0⟩
    go_wp2_with (fail)
    have h1 := union14 a b n m c d xs ys w0 (HX.out.mono (Nat.le_refl _) k0) (HY.out.mono (Nat.le_refl _) k0)
    rw [combE_setL S1.out S2.out, combR_setL S1.out S2.out] at h1
    refine h1.mono ?_
    clear h1
    rintro e w1 ⟨a1, n1, c1, rfl, i1, k1⟩
    have I1 := Lib.hid i1
    clear i1
    go_wp2_with (fail)
    have k01 := bstep k0 k1
    have h1 := inter15 a b n m c d xs ys w1 (HX.out.mono (Nat.le_refl _) k01) (HY.out.mono (Nat.le_refl _) k01)
    rw [combE_setL S1.out S2.out, combR_setL S1.out S2.out] at h1
    refine h1.mono ?_
    clear h1
    rintro e w2 ⟨a2, n2, c2, rfl, i2, k2⟩
    have I2 := Lib.hid i2
    clear i2
    go_wp2_with (fail)
    have k02 := bstep k01 k2
    have h1 := minus18 a b n m c d xs ys w2 (HX.out.mono (Nat.le_refl _) k02) (HY.out.mono (Nat.le_refl _) k02)
    rw [combE_setL S1.out S2.out, combR_setL S1.out S2.out] at h1
    refine h1.mono ?_
    clear h1
    rintro e w3 ⟨a3, n3, c3, rfl, i3, k3⟩
    have I3 := Lib.hid i3
    have k03 := Lib.hid (bstep k02 k3)
    have J1 := Lib.hid (I1.out.mono (Nat.le_refl _) (bstep k2 k3))
    have J2 := Lib.hid (I2.out.mono (Nat.le_refl _) k3)
    have JX := Lib.hid (HX.out.mono (Nat.le_refl _) k03.out)
    have JY := Lib.hid (HY.out.mono (Nat.le_refl _) k03.out)
    clear i3 k0 k1 k2 k3 k01 k02 I1 I2 HX HY
    go_wp2_with (fail)
    have h1 := check_any a1 n1 c1 _ w3 J1.out
    rw [chk_setL (comb_setL _ _ _)] at h1
    refine h1.mono ?_
    clear h1
    rintro e w' ⟨rfl, rfl⟩
    go_wp2_with (fail)
    have h1 := check_any a2 n2 c2 _ w3 J2.out
    rw [chk_setL (comb_setL _ _ _)] at h1
    refine h1.mono ?_
    clear h1
    rintro e w' ⟨rfl, rfl⟩
    go_wp2_with (fail)
    have h1 := check_any a3 n3 c3 _ w3 I3.out
    rw [chk_setL (comb_setL _ _ _)] at h1
    refine h1.mono ?_
    clear h1
    rintro e w' ⟨rfl, rfl⟩
    go_wp2_with (fail)
    go_loop [58] (fun i => ∃ k : Nat, k ≤ 64 ∧ i = .int .i64 k) (fun i => 64 - (intOf i).toNat)
    case atStart => exact ⟨0, by omega, rfl⟩
    case round =>
      obtain ⟨k, hk, rfl⟩ := hrel
      by_cases hlt : k < 64
      · have HP := contains29h a n c xs k w3 JX.out
        have HQ := contains29h b m d ys k w3 JY.out
        have H1 := contains29h a1 n1 c1 _ k w3 J1.out
        have H2 := contains29h a2 n2 c2 _ k w3 J2.out
        have H3 := contains29h a3 n3 c3 _ k w3 I3.out
        rw [hasI_comb _ _ _ _ hlt] at H1 H2 H3
        have HP := Lib.hid HP
        have HQ := Lib.hid HQ
        have H1 := Lib.hid H1
        have H2 := Lib.hid H2
        have H3 := Lib.hid H3
        go_wp2_with (fail)
        refine (HP.out).mono ?_
        rintro e w' ⟨rfl, rfl⟩
        go_wp2_with (fail)
        refine (HQ.out).mono ?_
        rintro e w' ⟨rfl, rfl⟩
        go_wp2_with (fail)
        refine (H1.out).mono ?_
        rintro e w' ⟨rfl, rfl⟩
        clear HP HQ H1
        generalize hasI xs k = p at H2 H3 ⊢
        generalize hasI ys k = q at H2 H3 ⊢
        cases p <;> cases q
        all_goals
          go_wp2_with (fail)
          refine (H2.out).mono ?_
          rintro e w' ⟨rfl, rfl⟩
          go_wp2_with (fail)
          refine (H3.out).mono ?_
          rintro e w' ⟨rfl, rfl⟩
          go_wp2_with (fail)
          exact ⟨⟨k + 1, by omega, by go_num⟩, by simp [intOf]; omega⟩
      · go_wp2_with (fail)
        refine (awake12 _).mono ?_
        rintro e w5 ⟨rfl, k5⟩
        go_wp2_with (fail)
        go_ret
        exact ⟨rfl, bstep k03.out k5⟩
  · rw [hbad] at H0
    clear hbad hx hy
    go_enter Try.func7, Try.ntmps7
    go_wp2_with (fail)
    refine (H0.out).mono ?_
    rintro e w1 ⟨rfl, hb1⟩
    go_wp2_with (fail)
    refine (awake12 _).mono ?_
    rintro e w2 ⟨rfl, hb2⟩
    go_wp2_with (fail)
    go_ret
    exact ⟨rfl, bstep hb1 hb2⟩

end Go.Proofs.Ytcmckcmckbdmhaa
