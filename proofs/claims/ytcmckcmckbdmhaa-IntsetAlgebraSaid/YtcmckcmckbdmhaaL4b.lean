import Derived.Test.YtcmckcmckbdmhaaL4
namespace Go.Proofs.Ytcmckcmckbdmhaa
open Go.RowKit Go.Ap Go.Shelf

theorem fine_three (a b g : Option Addr) (n m l c d h : Nat) (xs ys zs : List Int) (w : World) (hx : Ints w a n xs) (hy : Ints w b m ys) (hz : Ints w g l zs) :
    Calls Try.prog 11 #[.slice (some ⟨w.heap.size, 0, none⟩) 3 3] (w.alloc (.cells #[.slice a n c, .slice b m d, .slice g l h] 22)) fun e w' => e = .returned (.bool (!(bad1 xs || (bad1 ys || bad1 zs)))) ∧ Below w.heap.size w w' := by
  refine (fine11 _ 3 3 [xs, ys, zs] _ (rows_new (w := w) (c := #[.slice a n c, .slice b m d, .slice g l h]) (t := 22) [xs, ys, zs] rfl ⟨⟨_, _, _, rfl, hx⟩, ⟨_, _, _, rfl, hy⟩, ⟨_, _, _, rfl, hz⟩, trivial⟩ rfl (by omega))).mono ?_
  rintro e w' ⟨rfl, q, rfl⟩
  exact ⟨by simp, bstep (balloc _ _) (bdrewN _ _)⟩

theorem boxed_below {w w' : World} {B : Nat} {t : TypeId} {v : Value} (h : Boxed w B t v) (k : Below w.heap.size w w') : Boxed w' B t v := (k.block B h.lt).trans h

set_option maxRecDepth 100000 in
set_option maxHeartbeats 8000000 in
theorem law4 (a b g : Option Addr) (n m l c d h : Nat) (xs ys zs : List Int) (w : World) (hx : Ints w a n xs) (hy : Ints w b m ys) (hz : Ints w g l zs) :
    Calls Try.prog 4 #[.slice a n c, .slice b m d, .slice g l h] w fun e w' => e = .returned (.bool true) ∧ Below w.heap.size w w' := by
  have H0 := Lib.hid (fine_three a b g n m l c d h xs ys zs w hx hy hz)
  have HX0 := Lib.hid hx
  have HY0 := Lib.hid hy
  have HZ0 := Lib.hid hz
  cases hbad : (bad1 xs || (bad1 ys || bad1 zs))
  · rw [hbad] at H0
    obtain ⟨b1, b23⟩ := Bool.or_eq_false_iff.1 hbad
    obtain ⟨b2, b3⟩ := Bool.or_eq_false_iff.1 b23
    have SX := Lib.hid (bad1_no b1).2
    have SY := Lib.hid (bad1_no b2).2
    have SZ := Lib.hid (bad1_no b3).2
    clear hbad b1 b2 b3 b23 hx hy hz
    go_enter Try.func4, Try.ntmps4
    go_wp2_with (fail)
    refine (H0.out).mono ?_
    rintro e wz ⟨rfl, hb0⟩
    go_wp2_with (fail)
    obtain ⟨w0, hw0⟩ : ∃ w0, wz.alloc (.cells #[.bool true] 4) = w0 := ⟨_, rfl⟩
    have hbk : Below wz.heap.size wz w0 := by rw [← hw0]; exact balloc _ _
    have hok : Boxed w0 wz.heap.size 4 (.bool true) := by rw [← hw0]; exact Boxed.new _ _ _
    rw [hw0]
    generalize wz.heap.size = Bok at hok ⊢
    have HOK := Lib.hid hok
    have HX := Lib.hid (HX0.out.mono (Nat.le_refl _) (bstep hb0 hbk))
    have HY := Lib.hid (HY0.out.mono (Nat.le_refl _) (bstep hb0 hbk))
    have HZ := Lib.hid (HZ0.out.mono (Nat.le_refl _) (bstep hb0 hbk))
    clear hok hw0 HX0 HY0 HZ0
    -- call 1
    refine (do17 14 (fun x y => x || y) opU Bok a b n m c d xs ys w0 HOK.out HX.out HY.out SX.out SY.out).mono ?_
    rintro e w1 ⟨a1, n1, c1, rfl, i1, k1⟩
    have I1 := Lib.hid i1
    clear i1
    go_wp2_with (fail)
    -- call 2
    refine (do17 14 (fun x y => x || y) opU Bok b a m n d c ys xs w1 (boxed_below HOK.out k1) (HY.out.mono (Nat.le_refl _) k1) (HX.out.mono (Nat.le_refl _) k1) SY.out SX.out).mono ?_
    rintro e w2 ⟨a2, n2, c2, rfl, i2, k2⟩
    have I2 := Lib.hid i2
    clear i2
    go_wp2_with (fail)
    -- call 3
    refine (do17 15 (fun x y => x && y) opI Bok a b n m c d xs ys w2 (boxed_below HOK.out (bstep k1 k2)) (HX.out.mono (Nat.le_refl _) (bstep k1 k2)) (HY.out.mono (Nat.le_refl _) (bstep k1 k2)) SX.out SY.out).mono ?_
    rintro e w3 ⟨a3, n3, c3, rfl, i3, k3⟩
    have I3 := Lib.hid i3
    clear i3
    go_wp2_with (fail)
    -- call 4
    refine (do17 15 (fun x y => x && y) opI Bok b a m n d c ys xs w3 (boxed_below HOK.out (bstep k1 (bstep k2 k3))) (HY.out.mono (Nat.le_refl _) (bstep k1 (bstep k2 k3))) (HX.out.mono (Nat.le_refl _) (bstep k1 (bstep k2 k3))) SY.out SX.out).mono ?_
    rintro e w4 ⟨a4, n4, c4, rfl, i4, k4⟩
    have I4 := Lib.hid i4
    clear i4
    go_wp2_with (fail)
    -- call 5
    refine (do17 14 (fun x y => x || y) opU Bok a b n m c d xs ys w4 (boxed_below HOK.out (bstep k1 (bstep k2 (bstep k3 k4)))) (HX.out.mono (Nat.le_refl _) (bstep k1 (bstep k2 (bstep k3 k4)))) (HY.out.mono (Nat.le_refl _) (bstep k1 (bstep k2 (bstep k3 k4)))) SX.out SY.out).mono ?_
    rintro e w5 ⟨a5, n5, c5, rfl, i5, k5⟩
    have I5 := Lib.hid i5
    clear i5
    go_wp2_with (fail)
    -- call 6
    refine (do17 14 (fun x y => x || y) opU Bok a5 g n5 l c5 h (comb (fun x y => x || y) xs ys) zs w5 (boxed_below HOK.out (bstep k1 (bstep k2 (bstep k3 (bstep k4 k5))))) I5.out (HZ.out.mono (Nat.le_refl _) (bstep k1 (bstep k2 (bstep k3 (bstep k4 k5))))) (comb_setL _ _ _) SZ.out).mono ?_
    rintro e w6 ⟨a6, n6, c6, rfl, i6, k6⟩
    have I6 := Lib.hid i6
    clear i6
    go_wp2_with (fail)
    -- call 7
    refine (do17 14 (fun x y => x || y) opU Bok b g m l d h ys zs w6 (boxed_below HOK.out (bstep k1 (bstep k2 (bstep k3 (bstep k4 (bstep k5 k6)))))) (HY.out.mono (Nat.le_refl _) (bstep k1 (bstep k2 (bstep k3 (bstep k4 (bstep k5 k6)))))) (HZ.out.mono (Nat.le_refl _) (bstep k1 (bstep k2 (bstep k3 (bstep k4 (bstep k5 k6)))))) SY.out SZ.out).mono ?_
    rintro e w7 ⟨a7, n7, c7, rfl, i7, k7⟩
    have I7 := Lib.hid i7
    clear i7
    go_wp2_with (fail)
    -- call 8
    refine (do17 14 (fun x y => x || y) opU Bok a a7 n n7 c c7 xs (comb (fun x y => x || y) ys zs) w7 (boxed_below HOK.out (bstep k1 (bstep k2 (bstep k3 (bstep k4 (bstep k5 (bstep k6 k7))))))) (HX.out.mono (Nat.le_refl _) (bstep k1 (bstep k2 (bstep k3 (bstep k4 (bstep k5 (bstep k6 k7))))))) I7.out SX.out (comb_setL _ _ _)).mono ?_
    rintro e w8 ⟨a8, n8, c8, rfl, i8, k8⟩
    have I8 := Lib.hid i8
    clear i8
    go_wp2_with (fail)
    -- call 9
    refine (do17 14 (fun x y => x || y) opU Bok b g m l d h ys zs w8 (boxed_below HOK.out (bstep k1 (bstep k2 (bstep k3 (bstep k4 (bstep k5 (bstep k6 (bstep k7 k8)))))))) (HY.out.mono (Nat.le_refl _) (bstep k1 (bstep k2 (bstep k3 (bstep k4 (bstep k5 (bstep k6 (bstep k7 k8)))))))) (HZ.out.mono (Nat.le_refl _) (bstep k1 (bstep k2 (bstep k3 (bstep k4 (bstep k5 (bstep k6 (bstep k7 k8)))))))) SY.out SZ.out).mono ?_
    rintro e w9 ⟨a9, n9, c9, rfl, i9, k9⟩
    have I9 := Lib.hid i9
    clear i9
    go_wp2_with (fail)
    -- call 10
    refine (do17 15 (fun x y => x && y) opI Bok a a9 n n9 c c9 xs (comb (fun x y => x || y) ys zs) w9 (boxed_below HOK.out (bstep k1 (bstep k2 (bstep k3 (bstep k4 (bstep k5 (bstep k6 (bstep k7 (bstep k8 k9))))))))) (HX.out.mono (Nat.le_refl _) (bstep k1 (bstep k2 (bstep k3 (bstep k4 (bstep k5 (bstep k6 (bstep k7 (bstep k8 k9))))))))) I9.out SX.out (comb_setL _ _ _)).mono ?_
    rintro e w10 ⟨a10, n10, c10, rfl, i10, k10⟩
    have I10 := Lib.hid i10
    clear i10
    go_wp2_with (fail)
    -- call 11
    refine (do17 15 (fun x y => x && y) opI Bok a b n m c d xs ys w10 (boxed_below HOK.out (bstep k1 (bstep k2 (bstep k3 (bstep k4 (bstep k5 (bstep k6 (bstep k7 (bstep k8 (bstep k9 k10)))))))))) (HX.out.mono (Nat.le_refl _) (bstep k1 (bstep k2 (bstep k3 (bstep k4 (bstep k5 (bstep k6 (bstep k7 (bstep k8 (bstep k9 k10)))))))))) (HY.out.mono (Nat.le_refl _) (bstep k1 (bstep k2 (bstep k3 (bstep k4 (bstep k5 (bstep k6 (bstep k7 (bstep k8 (bstep k9 k10)))))))))) SX.out SY.out).mono ?_
    rintro e w11 ⟨a11, n11, c11, rfl, i11, k11⟩
    have I11 := Lib.hid i11
    clear i11
    go_wp2_with (fail)
    -- call 12
    refine (do17 15 (fun x y => x && y) opI Bok a g n l c h xs zs w11 (boxed_below HOK.out (bstep k1 (bstep k2 (bstep k3 (bstep k4 (bstep k5 (bstep k6 (bstep k7 (bstep k8 (bstep k9 (bstep k10 k11))))))))))) (HX.out.mono (Nat.le_refl _) (bstep k1 (bstep k2 (bstep k3 (bstep k4 (bstep k5 (bstep k6 (bstep k7 (bstep k8 (bstep k9 (bstep k10 k11))))))))))) (HZ.out.mono (Nat.le_refl _) (bstep k1 (bstep k2 (bstep k3 (bstep k4 (bstep k5 (bstep k6 (bstep k7 (bstep k8 (bstep k9 (bstep k10 k11))))))))))) SX.out SZ.out).mono ?_
    rintro e w12 ⟨a12, n12, c12, rfl, i12, k12⟩
    have I12 := Lib.hid i12
    clear i12
    go_wp2_with (fail)
    -- call 13
    refine (do17 14 (fun x y => x || y) opU Bok a11 a12 n11 n12 c11 c12 (comb (fun x y => x && y) xs ys) (comb (fun x y => x && y) xs zs) w12 (boxed_below HOK.out (bstep k1 (bstep k2 (bstep k3 (bstep k4 (bstep k5 (bstep k6 (bstep k7 (bstep k8 (bstep k9 (bstep k10 (bstep k11 k12)))))))))))) (I11.out.mono (Nat.le_refl _) k12) I12.out (comb_setL _ _ _) (comb_setL _ _ _)).mono ?_
    rintro e w13 ⟨a13, n13, c13, rfl, i13, k13⟩
    have I13 := Lib.hid i13
    clear i13
    go_wp2_with (fail)
    -- call 14
    refine (do17 15 (fun x y => x && y) opI Bok a b n m c d xs ys w13 (boxed_below HOK.out (bstep k1 (bstep k2 (bstep k3 (bstep k4 (bstep k5 (bstep k6 (bstep k7 (bstep k8 (bstep k9 (bstep k10 (bstep k11 (bstep k12 k13))))))))))))) (HX.out.mono (Nat.le_refl _) (bstep k1 (bstep k2 (bstep k3 (bstep k4 (bstep k5 (bstep k6 (bstep k7 (bstep k8 (bstep k9 (bstep k10 (bstep k11 (bstep k12 k13))))))))))))) (HY.out.mono (Nat.le_refl _) (bstep k1 (bstep k2 (bstep k3 (bstep k4 (bstep k5 (bstep k6 (bstep k7 (bstep k8 (bstep k9 (bstep k10 (bstep k11 (bstep k12 k13))))))))))))) SX.out SY.out).mono ?_
    rintro e w14 ⟨a14, n14, c14, rfl, i14, k14⟩
    have I14 := Lib.hid i14
    clear i14
    go_wp2_with (fail)
    -- call 15
    refine (do17 18 (fun x y => x && !y) opM Bok a b n m c d xs ys w14 (boxed_below HOK.out (bstep k1 (bstep k2 (bstep k3 (bstep k4 (bstep k5 (bstep k6 (bstep k7 (bstep k8 (bstep k9 (bstep k10 (bstep k11 (bstep k12 (bstep k13 k14)))))))))))))) (HX.out.mono (Nat.le_refl _) (bstep k1 (bstep k2 (bstep k3 (bstep k4 (bstep k5 (bstep k6 (bstep k7 (bstep k8 (bstep k9 (bstep k10 (bstep k11 (bstep k12 (bstep k13 k14)))))))))))))) (HY.out.mono (Nat.le_refl _) (bstep k1 (bstep k2 (bstep k3 (bstep k4 (bstep k5 (bstep k6 (bstep k7 (bstep k8 (bstep k9 (bstep k10 (bstep k11 (bstep k12 (bstep k13 k14)))))))))))))) SX.out SY.out).mono ?_
    rintro e w15 ⟨a15, n15, c15, rfl, i15, k15⟩
    have I15 := Lib.hid i15
    clear i15
    go_wp2_with (fail)
    -- call 16
    refine (do17 14 (fun x y => x || y) opU Bok a14 a15 n14 n15 c14 c15 (comb (fun x y => x && y) xs ys) (comb (fun x y => x && !y) xs ys) w15 (boxed_below HOK.out (bstep k1 (bstep k2 (bstep k3 (bstep k4 (bstep k5 (bstep k6 (bstep k7 (bstep k8 (bstep k9 (bstep k10 (bstep k11 (bstep k12 (bstep k13 (bstep k14 k15))))))))))))))) (I14.out.mono (Nat.le_refl _) k15) I15.out (comb_setL _ _ _) (comb_setL _ _ _)).mono ?_
    rintro e w16 ⟨a16, n16, c16, rfl, i16, k16⟩
    have I16 := Lib.hid i16
    clear i16
    have hcb := (boxed_below HOK.out (bstep k1 (bstep k2 (bstep k3 (bstep k4 (bstep k5 (bstep k6 (bstep k7 (bstep k8 (bstep k9 (bstep k10 (bstep k11 (bstep k12 (bstep k13 (bstep k14 (bstep k15 k16)))))))))))))))).cell
    go_wp2_with (fail)
    have e1 := equal16 a1 a2 n1 n2 c1 c2 (comb (fun x y => x || y) xs ys) (comb (fun x y => x || y) ys xs) w16 (I1.out.mono (Nat.le_refl _) (bstep k2 (bstep k3 (bstep k4 (bstep k5 (bstep k6 (bstep k7 (bstep k8 (bstep k9 (bstep k10 (bstep k11 (bstep k12 (bstep k13 (bstep k14 (bstep k15 k16))))))))))))))) (I2.out.mono (Nat.le_refl _) (bstep k3 (bstep k4 (bstep k5 (bstep k6 (bstep k7 (bstep k8 (bstep k9 (bstep k10 (bstep k11 (bstep k12 (bstep k13 (bstep k14 (bstep k15 k16))))))))))))))
    rw [comb_comm_or xs ys, beq_self_eq_true] at e1
    refine (e1).mono ?_
    clear e1
    rintro e w17 ⟨rfl, q1, rfl⟩
    go_wp2_with (fail)
    have e2 := fun Q : Nat => equal16 a3 a4 n3 n4 c3 c4 (comb (fun x y => x && y) xs ys) (comb (fun x y => x && y) ys xs) (w16.drewN Q) (I3.out.mono (Nat.le_refl _) (bstep (bstep k4 (bstep k5 (bstep k6 (bstep k7 (bstep k8 (bstep k9 (bstep k10 (bstep k11 (bstep k12 (bstep k13 (bstep k14 (bstep k15 k16)))))))))))) (bdrewN _ Q))) (I4.out.mono (Nat.le_refl _) (bstep (bstep k5 (bstep k6 (bstep k7 (bstep k8 (bstep k9 (bstep k10 (bstep k11 (bstep k12 (bstep k13 (bstep k14 (bstep k15 k16))))))))))) (bdrewN _ Q)))
    simp only [comb_comm_and xs ys, beq_self_eq_true] at e2
    refine (e2 _).mono ?_
    clear e2
    rintro e w18 ⟨rfl, q2, rfl⟩
    go_wp2_with (fail)
    have e3 := fun Q : Nat => equal16 a6 a8 n6 n8 c6 c8 (comb (fun x y => x || y) (comb (fun x y => x || y) xs ys) zs) (comb (fun x y => x || y) xs (comb (fun x y => x || y) ys zs)) (w16.drewN Q) (I6.out.mono (Nat.le_refl _) (bstep (bstep k7 (bstep k8 (bstep k9 (bstep k10 (bstep k11 (bstep k12 (bstep k13 (bstep k14 (bstep k15 k16))))))))) (bdrewN _ Q))) (I8.out.mono (Nat.le_refl _) (bstep (bstep k9 (bstep k10 (bstep k11 (bstep k12 (bstep k13 (bstep k14 (bstep k15 k16))))))) (bdrewN _ Q)))
    simp only [comb_assoc xs ys zs, beq_self_eq_true] at e3
    refine (e3 _).mono ?_
    clear e3
    rintro e w19 ⟨rfl, q3, rfl⟩
    go_wp2_with (fail)
    have e4 := fun Q : Nat => equal16 a10 a13 n10 n13 c10 c13 (comb (fun x y => x && y) xs (comb (fun x y => x || y) ys zs)) (comb (fun x y => x || y) (comb (fun x y => x && y) xs ys) (comb (fun x y => x && y) xs zs)) (w16.drewN Q) (I10.out.mono (Nat.le_refl _) (bstep (bstep k11 (bstep k12 (bstep k13 (bstep k14 (bstep k15 k16))))) (bdrewN _ Q))) (I13.out.mono (Nat.le_refl _) (bstep (bstep k14 (bstep k15 k16)) (bdrewN _ Q)))
    simp only [comb_distr xs ys zs, beq_self_eq_true] at e4
    refine (e4 _).mono ?_
    clear e4
    rintro e w20 ⟨rfl, q4, rfl⟩
    go_wp2_with (fail)
    have e5 := fun Q : Nat => equal16 a16 a n16 n c16 c (comb (fun x y => x || y) (comb (fun x y => x && y) xs ys) (comb (fun x y => x && !y) xs ys)) xs (w16.drewN Q) (I16.out.mono (Nat.le_refl _) (bdrewN _ Q)) (HX.out.mono (Nat.le_refl _) (bstep (bstep k1 (bstep k2 (bstep k3 (bstep k4 (bstep k5 (bstep k6 (bstep k7 (bstep k8 (bstep k9 (bstep k10 (bstep k11 (bstep k12 (bstep k13 (bstep k14 (bstep k15 k16))))))))))))))) (bdrewN _ Q)))
    simp only [comb_whole SX.out ys, beq_self_eq_true] at e5
    refine (e5 _).mono ?_
    clear e5
    rintro e w21 ⟨rfl, q5, rfl⟩
    go_wp2_with (fail)
    refine (awake12 _).mono ?_
    rintro e w99 ⟨rfl, k99⟩
    go_wp2_with (fail)
    go_ret
    exact ⟨rfl, bstep hb0 (bstep hbk (bstep (bstep k1 (bstep k2 (bstep k3 (bstep k4 (bstep k5 (bstep k6 (bstep k7 (bstep k8 (bstep k9 (bstep k10 (bstep k11 (bstep k12 (bstep k13 (bstep k14 (bstep k15 k16))))))))))))))) (bstep (bdrewN _ _) k99)))⟩
  · rw [hbad] at H0
    clear hbad hx hy hz
    go_enter Try.func4, Try.ntmps4
    go_wp2_with (fail)
    refine (H0.out).mono ?_
    rintro e w1 ⟨rfl, hb1⟩
    go_wp2_with (fail)
    refine (awake12 _).mono ?_
    rintro e w2 ⟨rfl, hb2⟩
    go_wp2_with (fail)
    go_ret
    exact ⟨rfl, bstep hb1 hb2⟩

end Go.Proofs.Ytcmckcmckbdmhaa
