import Derived.Test.YtcmckcmckbdmhaaL6
namespace Go.Proofs.Ytcmckcmckbdmhaa
open Go.RowKit Go.Ap Go.Shelf

def opF : Nat → Value
  | 0 => .func (.func 14) #[] #[] | 1 => .func (.func 22) #[] #[] | 2 => .func (.func 15) #[] #[] | 3 => .func (.func 23) #[] #[] | 4 => .func (.func 18) #[] #[] | _ => .func (.func 24) #[] #[]

set_option maxRecDepth 100000 in
set_option maxHeartbeats 4000000 in
theorem law6_fine (a b g : Option Addr) (n m l c d h : Nat) (xs ys : List Int) (zss : List (List Int)) (w : World) (hx : Ints w a n xs) (hy : Ints w b m ys) (hz : Rows2 w g l zss)
    (hn : n ≤ 12) (hm : m ≤ 12) (hgr : greatL zss = false) :
    Calls Try.prog 6 #[.slice a n c, .slice b m d, .slice g l h] w fun e w' => e = .returned (.bool true) ∧ Below w.heap.size w w' := by
  have HX := Lib.hid hx
  have HY := Lib.hid hy
  have HZ := Lib.hid hz
  have H20a := great20 a n c w (by omega)
  have H20b := great20 b m d w (by omega)
  rw [show decide (12 < n) = false by simp; omega] at H20a
  rw [show decide (12 < m) = false by simp; omega] at H20b
  have H20a := Lib.hid H20a
  have H20b := Lib.hid H20b
  have H21 := great21 g l h zss w hz
  rw [hgr] at H21
  have H21 := Lib.hid H21
  clear hx hy hz hgr
  go_enter Try.func6, Try.ntmps6
  go_wp2_with (fail)
  refine (H20a.out).mono ?_
  rintro e w' ⟨rfl, rfl⟩
  go_wp2_with (fail)
  refine (H20b.out).mono ?_
  rintro e w' ⟨rfl, rfl⟩
  go_wp2_with (fail)
  refine (H21.out).mono ?_
  rintro e w' ⟨rfl, rfl⟩
  go_wp2_with (fail)
  obtain ⟨W0, hW0⟩ : ∃ W0, w.alloc (.cells #[Value.func (Fn.func 14) #[] #[], Value.func (Fn.func 22) #[] #[], Value.func (Fn.func 15) #[] #[], Value.func (Fn.func 23) #[] #[], Value.func (Fn.func 18) #[] #[], Value.func (Fn.func 24) #[] #[]] 37) = W0 := ⟨_, rfl⟩
  rw [hW0]
  have hb0 : Below w.heap.size w W0 := by rw [← hW0]; exact balloc _ _
  have hB0 : w.heap.size < W0.heap.size := by rw [← hW0]; simp
  have hcs : ∀ j, j < 6 → W0.cell? ⟨w.heap.size, j, none⟩ = some (opF j) := by
    intro j hj
    rw [← hW0]
    refine cell_fresh rfl ?_
    rcases j with _ | _ | _ | _ | _ | _ | j <;> first | rfl | omega
  have HB0 := Lib.hid hb0
  have HCS := Lib.hid hcs
  generalize hBB : w.heap.size = B0 at hB0 HCS ⊢
  clear hb0 hcs hW0 hBB
  go_loopw [37] (fun i wr => ∃ k : Nat, k ≤ 3 ∧ i = .int .i64 k ∧ Below W0.heap.size W0 wr) (fun i _ => 3 - (intOf i).toNat)
  case atStart => exact ⟨0, by omega, rfl, Below.refl _ _⟩
  case round =>
    obtain ⟨k, hk, rfl, hb⟩ := hrel
    have HB := Lib.hid hb
    have HBA := Lib.hid (bstep HB0.out hb)
    have cs : ∀ j, j < 6 → wr.cell? ⟨B0, j, none⟩ = some (opF j) := fun j hj => (hb.cell (p := ⟨B0, j, none⟩) hB0).trans (HCS.out j hj)
    have HC := Lib.hid cs
    clear hb cs
    by_cases hlt : k < 3
    · have hk3 : k = 0 ∨ k = 1 ∨ k = 2 := by omega
      rcases hk3 with rfl | rfl | rfl
      · have e0 := HC.out 0 (by omega)
        have e1 := HC.out 1 (by omega)
        simp only [opF] at e0 e1
        have kA := bstep HBA.out (balloc wr (.cells #[Value.func (Fn.func 14) #[] #[], Value.func (Fn.func 22) #[] #[]] 37))
        go_wp2_with (fail)
        refine (union14 a b n m c d xs ys _ (HX.out.mono (Nat.le_refl _) kA) (HY.out.mono (Nat.le_refl _) kA)).mono ?_
        rintro e w2 ⟨a2, n2, c2, rfl, i2, k2⟩
        have I2 := Lib.hid i2
        have c81 : w2.cell? ⟨wr.heap.size, 1, none⟩ = some (Value.func (Fn.func 22) #[] #[]) := (k2.cell (p := ⟨wr.heap.size, 1, none⟩) (by simp)).trans (cell_fresh rfl rfl)
        clear i2 e0 e1
        go_wp2_with (fail)
        have kb2 := bstep kA k2
        refine (refunion22 a b n m c d xs ys _ (HX.out.mono (Nat.le_refl _) kb2) (HY.out.mono (Nat.le_refl _) kb2)).mono ?_
        rintro e w3 ⟨a3, n3, c3, rfl, i3, k3⟩
        have I3 := Lib.hid i3
        clear i3
        go_wp2_with (fail)
        have h1 := equal16 a2 a3 n2 n3 c2 c3 _ _ w3 (I2.out.mono (Nat.le_refl _) k3) I3.out
        rw [beq_self_eq_true] at h1
        refine h1.mono ?_
        clear h1
        rintro e w4 ⟨rfl, q4, rfl⟩
        have kk4 := Lib.hid (HB.out.trans ((bstep (balloc wr (.cells #[Value.func (Fn.func 14) #[] #[], Value.func (Fn.func 22) #[] #[]] 37)) (bstep k2 (bstep k3 (bdrewN _ q4)))).mono HB.out.size))
        clear k2 k3 kb2 kA
        go_wp2_with (fail)
        exact ⟨⟨1, by omega, rfl, kk4.out⟩, by simp [intOf]⟩
      · have e0 := HC.out 2 (by omega)
        have e1 := HC.out 3 (by omega)
        simp only [opF] at e0 e1
        have kA := bstep HBA.out (balloc wr (.cells #[Value.func (Fn.func 15) #[] #[], Value.func (Fn.func 23) #[] #[]] 37))
        go_wp2_with (fail)
        refine (inter15 a b n m c d xs ys _ (HX.out.mono (Nat.le_refl _) kA) (HY.out.mono (Nat.le_refl _) kA)).mono ?_
        rintro e w2 ⟨a2, n2, c2, rfl, i2, k2⟩
        have I2 := Lib.hid i2
        have c81 : w2.cell? ⟨wr.heap.size, 1, none⟩ = some (Value.func (Fn.func 23) #[] #[]) := (k2.cell (p := ⟨wr.heap.size, 1, none⟩) (by simp)).trans (cell_fresh rfl rfl)
        clear i2 e0 e1
        go_wp2_with (fail)
        have kb2 := bstep kA k2
        refine (refinter23 a b n m c d xs ys _ (HX.out.mono (Nat.le_refl _) kb2) (HY.out.mono (Nat.le_refl _) kb2) (by omega)).mono ?_
        rintro e w3 ⟨a3, n3, c3, rfl, i3, k3⟩
        have I3 := Lib.hid i3
        clear i3
        go_wp2_with (fail)
        have h1 := equal16 a2 a3 n2 n3 c2 c3 _ _ w3 (I2.out.mono (Nat.le_refl _) k3) I3.out
        rw [beq_self_eq_true] at h1
        refine h1.mono ?_
        clear h1
        rintro e w4 ⟨rfl, q4, rfl⟩
        have kk4 := Lib.hid (HB.out.trans ((bstep (balloc wr (.cells #[Value.func (Fn.func 15) #[] #[], Value.func (Fn.func 23) #[] #[]] 37)) (bstep k2 (bstep k3 (bdrewN _ q4)))).mono HB.out.size))
        clear k2 k3 kb2 kA
        go_wp2_with (fail)
        exact ⟨⟨2, by omega, rfl, kk4.out⟩, by simp [intOf]⟩
      · have e0 := HC.out 4 (by omega)
        have e1 := HC.out 5 (by omega)
        simp only [opF] at e0 e1
        have kA := bstep HBA.out (balloc wr (.cells #[Value.func (Fn.func 18) #[] #[], Value.func (Fn.func 24) #[] #[]] 37))
        go_wp2_with (fail)
        refine (minus18 a b n m c d xs ys _ (HX.out.mono (Nat.le_refl _) kA) (HY.out.mono (Nat.le_refl _) kA)).mono ?_
        rintro e w2 ⟨a2, n2, c2, rfl, i2, k2⟩
        have I2 := Lib.hid i2
        have c81 : w2.cell? ⟨wr.heap.size, 1, none⟩ = some (Value.func (Fn.func 24) #[] #[]) := (k2.cell (p := ⟨wr.heap.size, 1, none⟩) (by simp)).trans (cell_fresh rfl rfl)
        clear i2 e0 e1
        go_wp2_with (fail)
        have kb2 := bstep kA k2
        refine (refminus24 a b n m c d xs ys _ (HX.out.mono (Nat.le_refl _) kb2) (HY.out.mono (Nat.le_refl _) kb2) (by omega)).mono ?_
        rintro e w3 ⟨a3, n3, c3, rfl, i3, k3⟩
        have I3 := Lib.hid i3
        clear i3
        go_wp2_with (fail)
        have h1 := equal16 a2 a3 n2 n3 c2 c3 _ _ w3 (I2.out.mono (Nat.le_refl _) k3) I3.out
        rw [beq_self_eq_true] at h1
        refine h1.mono ?_
        clear h1
        rintro e w4 ⟨rfl, q4, rfl⟩
        have kk4 := Lib.hid (HB.out.trans ((bstep (balloc wr (.cells #[Value.func (Fn.func 18) #[] #[], Value.func (Fn.func 24) #[] #[]] 37)) (bstep k2 (bstep k3 (bdrewN _ q4)))).mono HB.out.size))
        clear k2 k3 kb2 kA
        go_wp2_with (fail)
        exact ⟨⟨3, by omega, rfl, kk4.out⟩, by simp [intOf]⟩
    · obtain rfl : k = 3 := by omega
      go_wp2_with (fail)
      refine (within19 a b n m c d xs ys wr (HX.out.mono (Nat.le_refl _) HBA.out) (HY.out.mono (Nat.le_refl _) HBA.out)).mono ?_
      rintro e w1 ⟨rfl, k1⟩
      go_wp2_with (fail)
      have kb1 := bstep HBA.out k1
      refine (refwithin25 a b n m c d xs ys w1 (HX.out.mono (Nat.le_refl _) kb1) (HY.out.mono (Nat.le_refl _) kb1)).mono ?_
      rintro e w2 ⟨rfl, q2, rfl⟩
      go_wp2_with (fail)
      have kb2 := bstep kb1 (bdrewN _ q2)
      refine (cover26 a g n l c h xs zss _ (HX.out.mono (Nat.le_refl _) kb2) (HZ.out.mono (Nat.le_refl _) kb2)).mono ?_
      rintro e w3 ⟨a3, n3, c3, rfl, i3, k3⟩
      have I3 := Lib.hid i3
      clear i3
      go_wp2_with (fail)
      have kb3 := bstep kb2 k3
      refine (refcover27 a g n l c h xs zss _ (HX.out.mono (Nat.le_refl _) kb3) (HZ.out.mono (Nat.le_refl _) kb3)).mono ?_
      rintro e w4 ⟨a4, n4, c4, rfl, i4, k4⟩
      have I4 := Lib.hid i4
      clear i4
      go_wp2_with (fail)
      have h1 := equal16 a3 a4 n3 n4 c3 c4 _ _ w4 (I3.out.mono (Nat.le_refl _) k4) I4.out
      rw [beq_self_eq_true] at h1
      refine h1.mono ?_
      clear h1
      rintro e w5 ⟨rfl, q5, rfl⟩
      go_wp2_with (fail)
      refine (awake12 _).mono ?_
      rintro e w6 ⟨rfl, k6⟩
      go_wp2_with (fail)
      go_ret
      exact ⟨rfl, bstep kb3 (bstep k4 (bstep (bdrewN _ _) k6))⟩

set_option maxRecDepth 100000 in
set_option maxHeartbeats 4000000 in
theorem law6 (a b g : Option Addr) (n m l c d h : Nat) (xs ys : List Int) (zss : List (List Int)) (w : World) (hx : Ints w a n xs) (hy : Ints w b m ys) (hz : Rows2 w g l zss) :
    Calls Try.prog 6 #[.slice a n c, .slice b m d, .slice g l h] w fun e w' => e = .returned (.bool true) ∧ Below w.heap.size w w' := by
  have H20a := great20 a n c w (by have := hx.small; omega)
  have H20b := great20 b m d w (by have := hy.small; omega)
  have H21 := great21 g l h zss w hz
  by_cases h1 : 12 < n
  · rw [show decide (12 < n) = true by simp; omega] at H20a
    have H1 := Lib.hid H20a
    clear hx hy hz h1 H20b H21 H20a
    go_enter Try.func6, Try.ntmps6
    go_wp2_with (fail)
    refine (H1.out).mono ?_
    rintro e w' ⟨rfl, rfl⟩
    go_wp2_with (fail)
    refine (awake12 _).mono ?_
    rintro e w1 ⟨rfl, k1⟩
    go_wp2_with (fail)
    go_ret
    exact ⟨rfl, k1⟩
  by_cases h2 : 12 < m
  · rw [show decide (12 < n) = false by simp; omega] at H20a
    rw [show decide (12 < m) = true by simp; omega] at H20b
    have H1 := Lib.hid H20a
    have H2 := Lib.hid H20b
    clear hx hy hz h1 h2 H20b H21 H20a
    go_enter Try.func6, Try.ntmps6
    go_wp2_with (fail)
    refine (H1.out).mono ?_
    rintro e w' ⟨rfl, rfl⟩
    go_wp2_with (fail)
    refine (H2.out).mono ?_
    rintro e w' ⟨rfl, rfl⟩
    go_wp2_with (fail)
    refine (awake12 _).mono ?_
    rintro e w1 ⟨rfl, k1⟩
    go_wp2_with (fail)
    go_ret
    exact ⟨rfl, k1⟩
  cases h3 : greatL zss
  · exact law6_fine a b g n m l c d h xs ys zss w hx hy hz (by omega) (by omega) h3
  · rw [show decide (12 < n) = false by simp; omega] at H20a
    rw [show decide (12 < m) = false by simp; omega] at H20b
    rw [h3] at H21
    have H1 := Lib.hid H20a
    have H2 := Lib.hid H20b
    have H3 := Lib.hid H21
    clear hx hy hz h1 h2 H20b H21 H20a h3
    go_enter Try.func6, Try.ntmps6
    go_wp2_with (fail)
    refine (H1.out).mono ?_
    rintro e w' ⟨rfl, rfl⟩
    go_wp2_with (fail)
    refine (H2.out).mono ?_
    rintro e w' ⟨rfl, rfl⟩
    go_wp2_with (fail)
    refine (H3.out).mono ?_
    rintro e w' ⟨rfl, rfl⟩
    go_wp2_with (fail)
    refine (awake12 _).mono ?_
    rintro e w1 ⟨rfl, k1⟩
    go_wp2_with (fail)
    go_ret
    exact ⟨rfl, k1⟩

end Go.Proofs.Ytcmckcmckbdmhaa
