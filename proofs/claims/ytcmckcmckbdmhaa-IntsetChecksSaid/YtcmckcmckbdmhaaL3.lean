import Derived.Test.YtcmckcmckbdmhaaW13
import Derived.Test.YtcmckcmckbdmhaaPlain
namespace Go.Proofs.Ytcmckcmckbdmhaa
open Go.RowKit Go.Ap Go.Shelf

/-- the two rows that a call of 'fine' with two lists lays -/
theorem fine_two (a b : Option Addr) (n m c d : Nat) (xs ys : List Int) (w : World) (hx : Ints w a n xs) (hy : Ints w b m ys) :
    Calls Try.prog 11 #[.slice (some ⟨w.heap.size, 0, none⟩) 2 2] (w.alloc (.cells #[.slice a n c, .slice b m d] 22)) fun e w' => e = .returned (.bool (!(bad1 xs || bad1 ys))) ∧ Below w.heap.size w w' := by
  refine (fine11 _ 2 2 [xs, ys] _ (rows_new (w := w) (c := #[.slice a n c, .slice b m d]) (t := 22) [xs, ys] rfl ⟨⟨_, _, _, rfl, hx⟩, ⟨_, _, _, rfl, hy⟩, trivial⟩ rfl (by omega))).mono ?_
  rintro e w' ⟨rfl, q, rfl⟩
  exact ⟨by simp, bstep (balloc _ _) (bdrewN _ _)⟩

set_option maxRecDepth 100000 in
set_option maxHeartbeats 2000000 in
theorem law3 (a b : Option Addr) (n m c d : Nat) (xs ys : List Int) (w : World) (hx : Ints w a n xs) (hy : Ints w b m ys) :
    Calls Try.prog 3 #[.slice a n c, .slice b m d] w fun e w' => e = .returned (.bool true) ∧ Below w.heap.size w w' := by
  have H0 := Lib.hid (fine_two a b n m c d xs ys w hx hy)
  have HX := Lib.hid hx
  have HY := Lib.hid hy
  have HLX := Lib.hid hx.len
  have hsx := hx.small
  cases hbad : (bad1 xs || bad1 ys)
  · rw [hbad] at H0
    obtain ⟨b1, b2⟩ := Bool.or_eq_false_iff.1 hbad
    obtain ⟨l1, s1⟩ := bad1_no b1
    obtain ⟨l2, s2⟩ := bad1_no b2
    have S1 := Lib.hid s1
    have S2 := Lib.hid s2
    have hn12 : n ≤ 12 := by rw [← hx.len]; exact l1
    clear hbad b1 b2 s1 s2 l1 l2 hx hy
    go_enter Try.func3, Try.ntmps3
    go_wp2_with (fail)
    refine (H0.out).mono ?_
    rintro e w0 ⟨rfl, hb0⟩
    go_wp2_with (fail)
    -- x
    have h1 := compl13 a n c 64 xs w0 ⟨by omega, by omega⟩ (HX.out.mono (Nat.le_refl _) hb0)
    rw [complE_setL S1.out, complR_setL S1.out] at h1
    refine h1.mono ?_
    clear h1
    rintro e w1 ⟨ax, nx, cx, rfl, i1, k1⟩
    have hnx : nx + n = 64 := by rw [← i1.len, ← HLX.out]; exact compl_len S1.out
    have I1 := Lib.hid i1
    clear i1
    go_wp2_with (fail)
    -- y
    have b1 := bstep hb0 k1
    have h1 := compl13 b m d 64 ys w1 ⟨by omega, by omega⟩ (HY.out.mono (Nat.le_refl _) b1)
    rw [complE_setL S2.out, complR_setL S2.out] at h1
    refine h1.mono ?_
    clear h1
    rintro e w2 ⟨ay, ny, cy, rfl, i2, k2⟩
    have I2 := Lib.hid i2
    clear i2
    go_wp2_with (fail)
    -- back
    have h1 := compl13 ax nx cx 64 (memb (complP xs) 64) w2 ⟨by omega, by omega⟩ (I1.out.mono (Nat.le_refl _) k2)
    rw [complE_setL (compl_setL _), complR_setL (compl_setL _), compl_compl S1.out] at h1
    refine h1.mono ?_
    clear h1
    rintro e w3 ⟨az, nz, cz, rfl, i3, k3⟩
    have I3 := Lib.hid i3
    clear i3
    go_wp2_with (fail)
    -- u
    have b3 := bstep (bstep b1 k2) k3
    have h1 := union14 a b n m c d xs ys w3 (HX.out.mono (Nat.le_refl _) b3) (HY.out.mono (Nat.le_refl _) b3)
    rw [combE_setL S1.out S2.out, combR_setL S1.out S2.out] at h1
    refine h1.mono ?_
    clear h1
    rintro e w4 ⟨au, nu, cu, rfl, i4, k4⟩
    have I4 := Lib.hid i4
    clear i4
    go_wp2_with (fail)
    -- z
    have h1 := compl13 au nu cu 64 _ w4 ⟨by omega, by omega⟩ I4.out
    rw [complE_setL (comb_setL _ _ _), complR_setL (comb_setL _ _ _), compl_comb] at h1
    refine h1.mono ?_
    clear h1
    rintro e w5 ⟨av, nv, cv, rfl, i5, k5⟩
    have I5 := Lib.hid i5
    clear i5
    go_wp2_with (fail)
    -- w
    have k35 := bstep k3 (bstep k4 k5)
    have h1 := inter15 ax ay nx ny cx cy _ _ w5 (I1.out.mono (Nat.le_refl _) (bstep k2 k35)) (I2.out.mono (Nat.le_refl _) k35)
    rw [combE_setL (compl_setL _) (compl_setL _), combR_setL (compl_setL _) (compl_setL _)] at h1
    refine h1.mono ?_
    clear h1
    rintro e w6 ⟨aw, nw, cw, rfl, i6, k6⟩
    have I6 := Lib.hid i6
    clear i6
    have hmax : ∀ w, (Builtin.max_ #[25, 25, 25, 25, 25, 25] 25 #[.int .i64 0, .int .i64 0, .int .i64 0, .int .i64 0, .int .i64 0, .int .i64 0]).run Try.prog w = .ok (.int .i64 0) w := fun _ => by kernel_rfl
    have hlen : ((nx : Int) == 64 - (n : Int)) = true := by rw [beq_iff_eq]; omega
    go_wp2_with (fail)
    have k46 := bstep k4 (bstep k5 k6)
    refine (equal16 az a nz n cz c xs xs w6 (I3.out.mono (Nat.le_refl _) k46) (HX.out.mono (Nat.le_refl _) (bstep b3 k46))).mono ?_
    rintro e w7 ⟨rfl, q7, rfl⟩
    rw [beq_self_eq_true]
    go_wp2_with (fail)
    refine (equal16 av aw nv nw cv cw _ _ _ (I5.out.mono (Nat.le_refl _) (bstep k6 (bdrewN _ q7))) (I6.out.mono (Nat.le_refl _) (bdrewN _ q7))).mono ?_
    rintro e w8 ⟨rfl, q8, rfl⟩
    rw [beq_self_eq_true]
    go_wp2_with (fail)
    refine (awake12 _).mono ?_
    rintro e w9 ⟨rfl, k9⟩
    go_wp2_with (fail)
    go_ret
    exact ⟨rfl, bstep b3 (bstep k46 (bstep (bdrewN _ _) k9))⟩
  · rw [hbad] at H0
    clear hbad hx hy
    go_enter Try.func3, Try.ntmps3
    go_wp2_with (fail)
    refine (H0.out).mono ?_
    rintro e w1 ⟨rfl, hb1⟩
    go_wp2_with (fail)
    refine (awake12 _).mono ?_
    rintro e w2 ⟨rfl, hb2⟩
    go_wp2_with (fail)
    go_ret
    exact ⟨rfl, bstep hb1 hb2⟩

end Go.Proofs.Ytcmckcmckbdmhaa
