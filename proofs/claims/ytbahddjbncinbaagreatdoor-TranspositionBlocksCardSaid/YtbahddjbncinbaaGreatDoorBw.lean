/-
  Distance of the reference; equal lists of blocks, by the reference.
-/
import Derived.Test.YtbahddjbncinbaaGreatDoorBr
namespace Go.Proofs.YtbahddjbncinbaaGreatDoor
open Go.RowKit Go.Ap Go.Shelf Go.Proofs

attribute [local go_sem] Oper.semAt_some bs_toList empty_toList bs_size bs_extract
set_option maxHeartbeats 2000000 in
/-- two equal lists of blocks, by the reference -/
theorem sameBks (a a' : Option Addr) (n c c' : Nat) (xs : List Blk) (w : World) (h : Blks w a n xs) (h' : Blks w a' n xs) : Calls Tryz.prog 35 #[.slice a n c, .slice a' n c'] w fun e w' => e = .returned (.bool true) ∧ Below w.heap.size w w' := by
  have hs := h.small
  have HX := Lib.hid h
  have HY := Lib.hid h'
  have d0 : ((n : Int) != (n : Int)) = false := by simp
  clear h h'
  go_enter Tryz.func35, Tryz.ntmps35
  go_wp2_with (fail)
  go_loopw [5] (fun iv wr => ∃ i : Nat, i ≤ n ∧ iv = .int .i64 i ∧ Below w.heap.size w wr) (fun iv _ => n - (intOf iv).toNat)
  case atStart => exact ⟨0, Nat.zero_le _, rfl, Below.refl _ _⟩
  case round =>
    obtain ⟨wi, rfl⟩ : ∃ wi : World, wi = wr := ⟨_, rfl⟩
    obtain ⟨i, hi, rfl, hb⟩ := hrel
    have HB := Lib.hid hb
    by_cases hin : i < n
    · obtain ⟨x, b, o, hx, rfl, x0, x1, x2⟩ := HX.out.at hin
      obtain ⟨y, b', o', hy, rfl, y0, y1, y2⟩ := HY.out.at hin
      rw [hx] at hy
      cases hy
      have x0 := cell_keep hb x0
      have x1 := cell_keep hb x1
      have x2 := cell_keep hb x2
      have y0 := cell_keep hb y0
      have y1 := cell_keep hb y1
      have y2 := cell_keep hb y2
      have i1 : (i : Int) < (n : Int) := by omega
      clear hx hb
      go_wp2_with (fail)
      go_quiet (fail)
      go_wp2_with (fail)
      go_roundw
      case rel => exact ⟨i + 1, by omega, by simp, bstep HB.out (bdrewN _ _)⟩
      case measure => simp [intOf]; omega
    · obtain rfl : n = i := by omega
      clear hb
      go_wp2_with (fail)
      go_ret
      exact ⟨rfl, HB.out⟩
set_option maxHeartbeats 4000000 in
theorem DistanceR (xs ys : List Tok) (a1 : Option Addr) (n1 c1 : Nat) (a2 : Option Addr) (n2 c2 : Nat) (w : World) (h1 : Toks w a1 n1 xs) (h2 : Toks w a2 n2 ys) :
    Calls Tryz.prog 34 #[.slice a1 n1 c1, .slice a2 n2 c2] w fun e w' => e = .returned (.tuple #[.int .i64 ((bksE xs ys).length : Int), .int .i64 (chkT xs ys)]) ∧ Below w.heap.size w w' := by
  have HB := Lib.hid (BlocksR xs ys a1 n1 c1 a2 n2 c2 w h1 h2)
  clear h1 h2
  go_enter Tryz.func34, Tryz.ntmps34
  go_wp2_with (fail)
  refine HB.out.mono ?_
  rintro e w1 ⟨v, rfl, ho, hb⟩
  obtain ⟨a, c, rfl⟩ := ownB_slice ho
  clear ho
  go_wp2_with (fail)
  go_ret2
  exact ⟨rfl, hb⟩
end Go.Proofs.YtbahddjbncinbaaGreatDoor
