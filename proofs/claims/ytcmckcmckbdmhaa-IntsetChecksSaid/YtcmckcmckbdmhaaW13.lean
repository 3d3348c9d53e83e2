import Derived.Test.YtcmckcmckbdmhaaW12
namespace Go.Proofs.Ytcmckcmckbdmhaa
open Go.RowKit Go.Ap Go.Shelf

theorem equal16 (a b : Option Addr) (n m c d : Nat) (xs ys : List Int) (w : World) (hx : Ints w a n xs) (hy : Ints w b m ys) :
    Calls Try.prog 16 #[.slice a n c, .slice b m d] w fun e w' => e = .returned (.bool (xs == ys)) ∧ ∃ q, w' = w.drewN q := by
  have hxl := hx.len
  have hyl := hy.len
  have hxs := hx.small
  have hys := hy.small
  by_cases hnm : n = m
  · by_cases h0 : n = 0
    · subst h0
      have e1 := hx.zero
      have e2 : ys = [] := List.eq_nil_of_length_eq_zero (by omega)
      subst e1 e2
      refine (Try.slices_Equal_int_empty a b c m d w (by omega)).mono ?_
      rintro e w' ⟨rfl, rfl⟩
      exact ⟨ret_b (by simp [← hnm]), 0, rfl⟩
    · obtain ⟨b1, o1, rfl, hc1⟩ := Ints.at hx (by omega)
      obtain ⟨b2, o2, rfl, hc2⟩ := Ints.at hy (by omega)
      refine (Try.slices_Equal_int b1 o1 n c b2 o2 m d xs ys w (by omega) (by omega) (by omega) (by omega) (fun j hj => hc1 j (by omega)) (fun j hj => hc2 j (by omega))).mono ?_
      rintro e w' ⟨rfl, q, rfl⟩
      rw [List.take_of_length_le (by omega), List.take_of_length_le (by omega)]
      exact ⟨rfl, q, rfl⟩
  · refine (Try.slices_Equal_int_lens a b n c m d w hnm).mono ?_
    rintro e w' ⟨rfl, rfl⟩
    refine ⟨ret_b ?_, 0, rfl⟩
    symm
    rw [beq_eq_false_iff_ne]
    intro h
    rw [h] at hxl
    omega

theorem contains29 (a : Option Addr) (n c : Nat) (xs : List Int) (x : Int) (w : World) (hx : Ints w a n xs) :
    Calls Try.prog 29 #[.slice a n c, .int .i64 x] w fun e w' => e = .returned (.bool (xs.contains x)) ∧ w = w' := by
  have hxl := hx.len
  have hxs := hx.small
  by_cases h0 : n = 0
  · subst h0
    have e1 := hx.zero
    subst e1
    refine (Try.slices_Contains_int_empty a c x w).mono ?_
    rintro e w' ⟨rfl, rfl⟩
    exact ⟨rfl, rfl⟩
  · obtain ⟨b1, o1, rfl, hc1⟩ := Ints.at hx (by omega)
    refine (Try.slices_Contains_int b1 o1 n c xs x w (by omega) (by omega) (fun j hj => hc1 j (by omega))).mono ?_
    rintro e w' ⟨rfl, rfl⟩
    rw [List.take_of_length_le (by omega)]
    exact ⟨rfl, rfl⟩

theorem aw1 : combR (fun x y => x || y) [1, 3] [2, 3] = [1, 2, 3] := by decide +kernel
theorem aw1e : combE [1, 3] [2, 3] = 0 := by decide +kernel
theorem aw2 : complR 5 [1, 3] = [0, 2, 4] := by decide +kernel
theorem aw2e : complE 5 [1, 3] = 0 := by decide +kernel
theorem aw3 : coverR [0, 1, 2] [[0], [0, 1], [1, 2], [2], [0, 3]] = [0, 2] := by decide +kernel
theorem aw3e : coverE [0, 1, 2] [[0], [0, 1], [1, 2], [2], [0, 3]] = 0 := by decide +kernel

set_option maxRecDepth 100000 in
set_option maxHeartbeats 2000000 in
theorem awake12 (w : World) : Calls Try.prog 12 #[] w fun e w' => e = .returned (.bool true) ∧ Below w.heap.size w w' := by
  go_enter Try.func12, Try.ntmps12
  go_wp2_with (fail)
  have hU := union14 (some ⟨w.heap.size, 0, none⟩) (some ⟨w.heap.size + 1, 0, none⟩) 2 2 2 2 [1, 3] [2, 3] ((w.alloc (Obj.cells #[Value.int IntKind.i64 1, Value.int IntKind.i64 3] 3)).alloc (Obj.cells #[Value.int IntKind.i64 2, Value.int IntKind.i64 3] 3))
    (ints_at [1, 3] (heap_old (heap_fresh rfl)) rfl rfl (by omega) rfl) (ints_at [2, 3] (heap_fresh (by simp)) rfl rfl (by omega) rfl)
  rw [aw1, aw1e] at hU
  refine hU.mono ?_
  clear hU
  rintro e w1 ⟨a1, n1, c1, rfl, hI1, hb1⟩
  obtain rfl : n1 = 3 := hI1.len.symm
  have HI1 := Lib.hid hI1
  have hb1' := bstep (balloc w _) (bstep (balloc _ _) hb1)
  clear hI1 hb1
  go_wp2_with (fail)
  have hC := compl13 (some ⟨w1.heap.size, 0, none⟩) 2 2 5 [1, 3] (w1.alloc (Obj.cells #[Value.int IntKind.i64 1, Value.int IntKind.i64 3] 3)) ⟨by omega, by omega⟩
    (ints_at [1, 3] (heap_fresh rfl) rfl rfl (by omega) rfl)
  rw [aw2, aw2e] at hC
  refine hC.mono ?_
  clear hC
  rintro e w2 ⟨a2, n2, c2, rfl, hI2, hb2⟩
  obtain rfl : n2 = 3 := hI2.len.symm
  have HI2 := Lib.hid hI2
  have hb2' := bstep (balloc w1 _) hb2
  clear hI2 hb2
  go_wp2_with (fail)
  obtain ⟨W, hW⟩ : ∃ W, (((((w2.alloc (Obj.cells #[Value.int IntKind.i64 0, Value.int IntKind.i64 1, Value.int IntKind.i64 2] 3)).alloc
    (Obj.cells #[Value.int IntKind.i64 0] 3)).alloc (Obj.cells #[Value.int IntKind.i64 0, Value.int IntKind.i64 1] 3)).alloc
    (Obj.cells #[Value.int IntKind.i64 1, Value.int IntKind.i64 2] 3)).alloc (Obj.cells #[Value.int IntKind.i64 2] 3)).alloc (Obj.cells #[Value.int IntKind.i64 0, Value.int IntKind.i64 3] 3) = W := ⟨_, rfl⟩
  rw [hW]
  have hWs : W.heap.size = w2.heap.size + 1 + 1 + 1 + 1 + 1 + 1 := by rw [← hW]; simp
  have hbW : Below w2.heap.size w2 W := by
    rw [← hW]
    exact bstep (balloc _ _) (bstep (balloc _ _) (bstep (balloc _ _) (bstep (balloc _ _) (bstep (balloc _ _) (balloc _ _)))))
  have hT : Ints W (some ⟨w2.heap.size, 0, none⟩) 3 [0, 1, 2] := by
    rw [← hW]; exact ints_at [0, 1, 2] (heap_old (heap_old (heap_old (heap_old (heap_old (heap_fresh rfl)))))) rfl rfl (by omega) rfl
  have hX : AllR W [.slice (some ⟨w2.heap.size + 1, 0, none⟩) 1 1, .slice (some ⟨w2.heap.size + 1 + 1, 0, none⟩) 2 2, .slice (some ⟨w2.heap.size + 1 + 1 + 1, 0, none⟩) 2 2, .slice (some ⟨w2.heap.size + 1 + 1 + 1 + 1, 0, none⟩) 1 1, .slice (some ⟨w2.heap.size + 1 + 1 + 1 + 1 + 1, 0, none⟩) 2 2]
      [[0], [0, 1], [1, 2], [2], [0, 3]] := by
    rw [← hW]
    exact ⟨rowr_at [0] (heap_old (heap_old (heap_old (heap_old (heap_fresh (by simp)))))) rfl rfl (by omega) rfl, rowr_at [0, 1] (heap_old (heap_old (heap_old (heap_fresh (by simp))))) rfl rfl (by omega) rfl,
      rowr_at [1, 2] (heap_old (heap_old (heap_fresh (by simp)))) rfl rfl (by omega) rfl, rowr_at [2] (heap_old (heap_fresh (by simp))) rfl rfl (by omega) rfl, rowr_at [0, 3] (heap_fresh (by simp)) rfl rfl (by omega) rfl, trivial⟩
  have hV := cover26 (some ⟨w2.heap.size, 0, none⟩) (some ⟨w2.heap.size + 1 + 1 + 1 + 1 + 1 + 1, 0, none⟩) 3 5 3 5 [0, 1, 2] [[0], [0, 1], [1, 2], [2], [0, 3]] _
    (hT.mono (Nat.le_refl _) (balloc W (.cells #[.slice (some ⟨w2.heap.size + 1, 0, none⟩) 1 1, .slice (some ⟨w2.heap.size + 1 + 1, 0, none⟩) 2 2, .slice (some ⟨w2.heap.size + 1 + 1 + 1, 0, none⟩) 2 2, .slice (some ⟨w2.heap.size + 1 + 1 + 1 + 1, 0, none⟩) 1 1, .slice (some ⟨w2.heap.size + 1 + 1 + 1 + 1 + 1, 0, none⟩) 2 2] 22)))
    (rows_new (w := W) (t := 22) [[0], [0, 1], [1, 2], [2], [0, 3]] hWs.symm hX rfl (by omega))
  rw [aw3, aw3e] at hV
  refine hV.mono ?_
  clear hV
  rintro e w3 ⟨a3, n3, c3, rfl, hI3, hb3⟩
  obtain rfl : n3 = 2 := hI3.len.symm
  have hb3' := bstep hbW (bstep (balloc W _) hb3)
  have HI1b := Lib.hid ((HI1.out.mono (Nat.le_refl _) hb2').mono (Nat.le_refl _) hb3')
  have HI2b := Lib.hid (HI2.out.mono (Nat.le_refl _) hb3')
  have HI3 := Lib.hid hI3
  have hbw := bstep hb1' (bstep hb2' hb3')
  clear hI3 hb3 hb3' hb2' hb1' hX hT hW hbW HI1 HI2
  go_wp2_with (fail)
  have b1 := balloc w3 (Obj.cells #[Value.int IntKind.i64 1, Value.int IntKind.i64 2, Value.int IntKind.i64 3] 3)
  refine (equal16 a1 _ 3 3 c1 3 [1, 2, 3] [1, 2, 3] _ (HI1b.out.mono (Nat.le_refl _) b1) (ints_at [1, 2, 3] (heap_fresh rfl) rfl rfl (by omega) rfl)).mono ?_
  rintro e w4 ⟨rfl, q4, rfl⟩
  go_wp2_with (fail)
  have b2 := bstep b1 (bdrewN _ q4)
  have b3 := bstep b2 (balloc _ (Obj.cells #[Value.int IntKind.i64 0, Value.int IntKind.i64 2, Value.int IntKind.i64 4] 3))
  refine (equal16 a2 _ 3 3 c2 3 [0, 2, 4] [0, 2, 4] _ (HI2b.out.mono (Nat.le_refl _) b3) (ints_at [0, 2, 4] (heap_fresh (by simp [World.drewN])) rfl rfl (by omega) rfl)).mono ?_
  rintro e w5 ⟨rfl, q5, rfl⟩
  go_wp2_with (fail)
  have b4 := bstep b3 (bdrewN _ q5)
  have b5 := bstep b4 (balloc _ (Obj.cells #[Value.int IntKind.i64 0, Value.int IntKind.i64 2] 3))
  refine (equal16 a3 _ 2 2 c3 2 [0, 2] [0, 2] _ (HI3.out.mono (Nat.le_refl _) b5) (ints_at [0, 2] (heap_fresh (by simp [World.drewN])) rfl rfl (by omega) rfl)).mono ?_
  rintro e w6 ⟨rfl, q6, rfl⟩
  go_wp2_with (fail)
  go_ret
  exact ⟨rfl, bstep hbw (bstep b5 (bdrewN _ q6))⟩

end Go.Proofs.Ytcmckcmckbdmhaa
