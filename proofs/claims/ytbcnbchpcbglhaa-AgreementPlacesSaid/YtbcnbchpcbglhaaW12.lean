/-
  The examples of the chapter hold.
-/
import Derived.Test.YtbcnbchpcbglhaaW11
namespace Go.Proofs.Ytbcnbchpcbglhaa
open Go.RowKit Go.Ap Go.Shelf Go.Proofs

theorem cluE_zero {S : List (List Int)} {most : Int} (h : cluE S most = 0) : chkS S = 0 ∧ 0 ≤ most ∧ most ≤ 1000 := by
  unfold cluE at h
  split at h
  · cases h
  · split at h
    · cases h
    · exact ⟨by omega, by omega, by omega⟩
theorem cluR_len (S : List (List Int)) (m : Nat) (most : Int) : (cluR S m most).length ≤ 1000000 ∧ ∀ r ∈ cluR S m most, r.length ≤ 1000000 := by
  unfold cluR
  split
  · rename_i h
    have := (chkS_ok (cluE_zero h).1).le
    have h1 := cluU_len (connB (adjD S m most) S.length) S.length S.length
    exact ⟨by omega, fun r hr => by have := cluU_row r hr; omega⟩
  · exact ⟨by simp, fun r hr => by cases hr⟩
theorem clusters15 (a : Option Addr) (n c m : Nat) (most : Int) (S : List (List Int)) (w : World) (h : Rows2 w a n S) (hm : m = (row S 0).length) :
    Calls Try.prog 15 #[.slice a n c, .int .i64 most] w (GivesR2 w (cluR S m most) (cluE S most)) := by
  have key : Calls Try.prog 15 #[.slice a n c, .int .i64 most] w (GivesRR w (cluR S m most) (cluE S most)) := by
    by_cases hE : cluE S most = 0
    · obtain ⟨h1, h2, h3⟩ := cluE_zero hE
      have ok := chkS_ok h1
      rw [← hm] at ok
      rw [cluR, if_pos hE, hE, h.len]
      exact clusters15_ok a n c m S most w h h1 ok h2 h3
    · rw [cluR, if_neg hE]
      exact clusters15_no a n c S most w h hE
  exact key.mono fun e w' hg => hg.r2 (cluR_len S m most).1 (cluR_len S m most).2

def ex : List (List Int) := [[0, 1, 0], [0, 1, 1], [0, -1, 1]]
theorem ex_chk : chkS ex = 0 := by decide +kernel
theorem ex_err : errR ex = 0 := by decide +kernel
theorem ex_mat : tabR (agrF ex 3) ex = [[3, 2, 1], [2, 3, 2], [1, 2, 2]] := by decide +kernel
theorem ex_dst : tabR (rdsF ex 3) ex = [[0, 333, 500], [333, 0, 0], [500, 0, 0]] := by decide +kernel
theorem ex_shrE : shrE ex [1, 2] = 0 := by decide +kernel
theorem ex_shr : shrL ex [1, 2] = [2] := by decide +kernel
theorem ex_nearE : nearE ex 0 = 0 := by decide +kernel
theorem ex_near : nearV ex 3 0 = 1 := by decide +kernel
theorem ex_cluE : cluE ex 0 = 0 := by decide +kernel
def exK (i : Nat) : Nat := if i = 0 then 0 else 1
theorem ex_adj : ∀ i, i < 3 → ∀ j, j < 3 → (adjD ex 3 0 i j = true ↔ exK i = exK j) := by decide +kernel
theorem ex_conn (i j : Nat) (hi : i < 3) (hj : j < 3) : connB (adjD ex 3 0) 3 i j = decide (exK i = exK j) := by
  rw [Bool.eq_iff_iff, connB_iff, decide_eq_true_eq]
  constructor
  · intro h
    induction h with
    | refl => rfl
    | step h hk ha ih => exact (ih h.right).trans ((ex_adj _ h.right _ hk).1 ha)
  · intro h
    exact Conn.one hi hj ((ex_adj i hi j hj).2 h)
theorem ex_clu : cluR ex 3 0 = [[0], [1, 2]] := by
  rw [cluR, if_pos ex_cluE]
  show cluU (connB (adjD ex 3 0) 3) 3 3 = _
  rw [cluU_congr (Nat.le_refl _) ex_conn]
  decide +kernel

theorem lit3 (w : World) (x y z : List Int) (cx cy cz : Array Value) (nx ny nz : Nat) (hx : cx = (x.map (Value.int .i64)).toArray) (hy : cy = (y.map (Value.int .i64)).toArray) (hz : cz = (z.map (Value.int .i64)).toArray)
    (lx : x.length = nx) (ly : y.length = ny) (lz : z.length = nz) (hs : nx ≤ 1000 ∧ ny ≤ 1000 ∧ nz ≤ 1000)
    (fx : ((x ++ y ++ z).all fun x => decide (-9223372036854775808 ≤ x) && decide (x ≤ 9223372036854775807)) = true) :
    ∃ W, W = ((((w.alloc (.cells cx 3)).alloc (.cells cy 3)).alloc (.cells cz 3)).alloc (.cells #[.slice (some ⟨w.heap.size, 0, none⟩) nx nx, .slice (some ⟨w.heap.size + 1, 0, none⟩) ny ny, .slice (some ⟨w.heap.size + 1 + 1, 0, none⟩) nz nz] 23)) ∧
      Rows2 W (some ⟨w.heap.size + 1 + 1 + 1, 0, none⟩) 3 [x, y, z] ∧ Below w.heap.size w W := by
  rw [List.all_append, List.all_append, Bool.and_eq_true, Bool.and_eq_true] at fx
  refine ⟨_, rfl, rows_new [x, y, z] (by simp) ⟨rowr_at x (heap_old (heap_old (heap_fresh rfl))) hx lx (by omega) fx.1.1, rowr_at y (heap_old (heap_fresh (by simp))) hy ly (by omega) fx.1.2, rowr_at z (heap_fresh (by simp)) hz lz (by omega) fx.2, trivial⟩ rfl (by omega), ?_⟩
  exact bstep (balloc _ _) (bstep (balloc _ _) (bstep (balloc _ _) (balloc _ _)))
theorem lit2 (w : World) (x y : List Int) (cx cy : Array Value) (nx ny : Nat) (hx : cx = (x.map (Value.int .i64)).toArray) (hy : cy = (y.map (Value.int .i64)).toArray)
    (lx : x.length = nx) (ly : y.length = ny) (hs : nx ≤ 1000 ∧ ny ≤ 1000)
    (fx : ((x ++ y).all fun x => decide (-9223372036854775808 ≤ x) && decide (x ≤ 9223372036854775807)) = true) :
    ∃ W, W = (((w.alloc (.cells cx 3)).alloc (.cells cy 3)).alloc (.cells #[.slice (some ⟨w.heap.size, 0, none⟩) nx nx, .slice (some ⟨w.heap.size + 1, 0, none⟩) ny ny] 23)) ∧
      Rows2 W (some ⟨w.heap.size + 1 + 1, 0, none⟩) 2 [x, y] ∧ Below w.heap.size w W := by
  rw [List.all_append, Bool.and_eq_true] at fx
  refine ⟨_, rfl, rows_new [x, y] (by simp) ⟨rowr_at x (heap_old (heap_fresh rfl)) hx lx (by omega) fx.1, rowr_at y (heap_fresh (by simp)) hy ly (by omega) fx.2, trivial⟩ rfl (by omega), ?_⟩
  exact bstep (balloc _ _) (bstep (balloc _ _) (balloc _ _))
theorem max5 : ∀ w, (Builtin.max_ #[26, 26, 26, 26, 26] 26 #[.int .i64 0, .int .i64 0, .int .i64 0, .int .i64 0, .int .i64 0]).run Try.prog w = .ok (.int .i64 0) w := fun _ => by kernel_rfl

set_option maxRecDepth 100000 in
set_option maxHeartbeats 4000000 in
theorem awake12 (w : World) : Calls Try.prog 12 #[] w fun e w' => e = .returned (.bool true) ∧ Below w.heap.size w w' := by
  obtain ⟨W0, hW0, hR0, hB0⟩ := lit3 w [0, 1, 0] [0, 1, 1] [0, -1, 1] #[.int .i64 0, .int .i64 1, .int .i64 0] #[.int .i64 0, .int .i64 1, .int .i64 1] #[.int .i64 0, .int .i64 (-1), .int .i64 1] 3 3 3 rfl rfl rfl rfl rfl rfl (by omega) (by decide +kernel)
  have HW0 := Lib.hid hW0
  have HR0 := Lib.hid hR0
  have HB0 := Lib.hid hB0
  clear hW0 hR0 hB0
  go_enter Try.func12, Try.ntmps12
  go_wp2_with (fail)
  rw [← HW0.out]
  -- m
  have h1 := matrix23 (some ⟨w.heap.size + 1 + 1 + 1, 0, none⟩) 3 3 3 ex W0 HR0.out rfl
  rw [ex_mat, ex_err] at h1
  refine h1.mono ?_
  clear h1
  rintro e w1 ⟨a1, n1, c1, rfl, hI1, hb1⟩
  have HI1 := Lib.hid hI1
  have HB1 := Lib.hid (bstep HB0.out hb1)
  have K1 := Lib.hid hb1
  clear hI1 hb1
  go_wp2_with (fail)
  -- d
  have h1 := distances24 (some ⟨w.heap.size + 1 + 1 + 1, 0, none⟩) 3 3 3 ex w1 (HR0.out.mono (Nat.le_refl _) K1.out) rfl
  rw [ex_dst, ex_err] at h1
  refine h1.mono ?_
  clear h1
  rintro e w2 ⟨a2, n2, c2, rfl, hI2, hb2⟩
  have HI2 := Lib.hid hI2
  have HB2 := Lib.hid (bstep HB1.out hb2)
  have K2 := Lib.hid (bstep K1.out hb2)
  have J1 := Lib.hid hb2
  clear hI2 hb2
  go_wp2_with (fail)
  -- l
  have h1 := clusters15 (some ⟨w.heap.size + 1 + 1 + 1, 0, none⟩) 3 3 3 0 ex w2 (HR0.out.mono (Nat.le_refl _) K2.out) rfl
  rw [ex_clu, ex_cluE] at h1
  refine h1.mono ?_
  clear h1
  rintro e w3 ⟨a3, n3, c3, rfl, hI3, hb3⟩
  have HI3 := Lib.hid hI3
  have HB3 := Lib.hid (bstep HB2.out hb3)
  have K3 := Lib.hid (bstep K2.out hb3)
  have J2 := Lib.hid hb3
  clear hI3 hb3
  go_wp2_with (fail)
  -- s
  obtain ⟨W3, hW3⟩ : ∃ W3, w3.alloc (.cells #[.int .i64 1, .int .i64 2] 3) = W3 := ⟨_, rfl⟩
  have hs : Ints W3 (some ⟨w3.heap.size, 0, none⟩) 2 [1, 2] := by rw [← hW3]; exact ints_new [1, 2] rfl rfl rfl (by omega) rfl
  have J3 := Lib.hid (show Below w3.heap.size w3 W3 by rw [← hW3]; exact balloc _ _)
  rw [hW3]
  clear hW3
  have h1 := shared17 (some ⟨w.heap.size + 1 + 1 + 1, 0, none⟩) (some ⟨w3.heap.size, 0, none⟩) 3 3 2 2 ex [1, 2] W3 (HR0.out.mono (Nat.le_refl _) (bstep K3.out J3.out)) hs
  rw [ex_shr, ex_shrE] at h1
  refine h1.mono ?_
  clear h1 hs
  rintro e w4 ⟨a4, n4, c4, rfl, hI4, hb4⟩
  have HI4 := Lib.hid hI4
  have J4 := Lib.hid (bstep J3.out hb4)
  clear hI4 hb4
  go_wp2_with (fail)
  -- n
  have h1 := nearest13 (some ⟨w.heap.size + 1 + 1 + 1, 0, none⟩) 3 3 3 0 ex w4 (HR0.out.mono (Nat.le_refl _) (bstep K3.out J4.out)) ⟨by omega, by omega⟩ rfl
  rw [ex_near, ex_nearE] at h1
  refine h1.mono ?_
  clear h1
  rintro e w5 ⟨rfl, hb5⟩
  have J5 := Lib.hid hb5
  clear hb5
  have hmax := max5
  go_wp2_with (fail)
  -- Same(m, ..)
  obtain ⟨W5, hW5, hR5, hB5⟩ := lit3 w5 [3, 2, 1] [2, 3, 2] [1, 2, 2] #[.int .i64 3, .int .i64 2, .int .i64 1] #[.int .i64 2, .int .i64 3, .int .i64 2] #[.int .i64 1, .int .i64 2, .int .i64 2] 3 3 3 rfl rfl rfl rfl rfl rfl (by omega) (by decide +kernel)
  rw [← hW5]
  have L5 := Lib.hid hB5
  clear hW5 hB5
  refine (same19 _ _ _ 3 _ 3 _ _ W5 (HI1.out.mono (Nat.le_refl _) (bstep J1.out (bstep J2.out (bstep J4.out (bstep J5.out L5.out))))) hR5).mono ?_
  rintro e w' ⟨rfl, q5, rfl⟩
  rw [show sameB [[3, 2, 1], [2, 3, 2], [1, 2, 2]] [[3, 2, 1], [2, 3, 2], [1, 2, 2]] = true by rfl]
  clear hR5
  obtain ⟨w6, hw6⟩ : ∃ w6, W5.drewN q5 = w6 := ⟨_, rfl⟩
  have L6 := Lib.hid (show Below w5.heap.size w5 w6 by rw [← hw6]; exact bstep L5.out (bdrewN _ _))
  rw [hw6]
  clear hw6 hmax
  go_wp2_with (fail)
  obtain ⟨W6, hW6, hR6, hB6⟩ := lit3 w6 [0, 333, 500] [333, 0, 0] [500, 0, 0] #[.int .i64 0, .int .i64 333, .int .i64 500] #[.int .i64 333, .int .i64 0, .int .i64 0] #[.int .i64 500, .int .i64 0, .int .i64 0] 3 3 3 rfl rfl rfl rfl rfl rfl (by omega) (by decide +kernel)
  rw [← hW6]
  have M6 := Lib.hid hB6
  clear hW6 hB6
  refine (same19 _ _ _ 3 _ 3 _ _ W6 (HI2.out.mono (Nat.le_refl _) (bstep J2.out (bstep J4.out (bstep J5.out (bstep L6.out M6.out))))) hR6).mono ?_
  rintro e w' ⟨rfl, q6, rfl⟩
  rw [show sameB [[0, 333, 500], [333, 0, 0], [500, 0, 0]] [[0, 333, 500], [333, 0, 0], [500, 0, 0]] = true by rfl]
  clear hR6
  obtain ⟨w7, hw7⟩ : ∃ w7, W6.drewN q6 = w7 := ⟨_, rfl⟩
  have L7 := Lib.hid (show Below w5.heap.size w5 w7 by rw [← hw7]; exact bstep L6.out (bstep M6.out (bdrewN _ _)))
  rw [hw7]
  clear hw7
  go_wp2_with (fail)
  obtain ⟨W7, hW7, hR7, hB7⟩ := lit2 w7 [0] [1, 2] #[.int .i64 0] #[.int .i64 1, .int .i64 2] 1 2 rfl rfl rfl rfl (by omega) (by decide +kernel)
  rw [← hW7]
  have M7 := Lib.hid hB7
  clear hW7 hB7
  refine (same19 _ _ _ 2 _ 2 _ _ W7 (HI3.out.mono (Nat.le_refl _) (bstep J4.out (bstep J5.out (bstep L7.out M7.out)))) hR7).mono ?_
  rintro e w' ⟨rfl, q7, rfl⟩
  rw [show sameB [[0], [1, 2]] [[0], [1, 2]] = true by rfl]
  clear hR7
  obtain ⟨w8, hw8⟩ : ∃ w8, W7.drewN q7 = w8 := ⟨_, rfl⟩
  have L8 := Lib.hid (show Below w5.heap.size w5 w8 by rw [← hw8]; exact bstep L7.out (bstep M7.out (bdrewN _ _)))
  rw [hw8]
  clear hw8
  go_wp2_with (fail)
  obtain ⟨W8, hW8⟩ : ∃ W8, w8.alloc (.cells #[.int .i64 2] 3) = W8 := ⟨_, rfl⟩
  have hs : Ints W8 (some ⟨w8.heap.size, 0, none⟩) 1 [2] := by rw [← hW8]; exact ints_new [2] rfl rfl rfl (by omega) rfl
  have M8 := Lib.hid (show Below w8.heap.size w8 W8 by rw [← hW8]; exact balloc _ _)
  rw [hW8]
  clear hW8
  refine (equal20 _ _ _ 1 _ 1 _ _ W8 (HI4.out.mono (Nat.le_refl _) (bstep J5.out (bstep L8.out M8.out))) hs).mono ?_
  rintro e w' ⟨rfl, q8, rfl⟩
  rw [show eqL [2] [2] = true by rfl]
  clear hs
  go_wp2_with (fail)
  go_ret
  exact ⟨rfl, bstep HB3.out (bstep J4.out (bstep J5.out (bstep L8.out (bstep M8.out (bdrewN _ _)))))⟩

end Go.Proofs.Ytbcnbchpcbglhaa
