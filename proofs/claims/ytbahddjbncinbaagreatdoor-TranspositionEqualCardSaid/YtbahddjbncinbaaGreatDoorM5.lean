/-
  TranspositionEqual: the law.
-/
import Derived.Test.YtbahddjbncinbaaGreatDoorFn
namespace Go.Proofs.YtbahddjbncinbaaGreatDoor
open Go.RowKit Go.Ap Go.Shelf Go.Proofs

attribute [local go_sem] Oper.semAt_some bs_toList empty_toList bs_size bs_extract
theorem max5 (P : Program) (w : World) (ts : Array TypeId) (t : TypeId) : (Builtin.max_ ts t #[.int .i64 0, .int .i64 0, .int .i64 0, .int .i64 0, .int .i64 0]).run P w = .ok (.int .i64 0) w := by simp [Builtin.max_, Builtin.max2]
attribute [local go_sem] max5
/-- what the law says, in plain words -/
theorem equal_plain {xs ys : List Tok} (h : ∀ l ∈ [xs, ys], FineT l) : ∃ b : Bool, (((bksE xs ys).length : Int) == 0) = b ∧ ((((rowsP (prsE xs ys)).length : Nat) : Int) == (((rowsP (chnE xs ys)).length : Nat) : Int)) = b ∧ (((bksE ys xs).length : Int) == 0) = b ∧ bksE xs xs = [] := by
  obtain ⟨k1, k2, k3⟩ := chk_fine h
  have e1 : prsE xs ys = pairsL (keysT xs) (keysT ys) := by unfold prsE; rw [if_pos k1]
  have e2 : prsE ys xs = pairsL (keysT ys) (keysT xs) := by unfold prsE; rw [if_pos k2]
  have e3 : prsE xs xs = pairsL (keysT xs) (keysT xs) := by unfold prsE; rw [if_pos k3]
  have nil : ∀ xs ys, bksE xs ys = [] ↔ outL (prsE xs ys) = [] := fun xs ys => blkF_nil_iff _
  have len : ∀ l : List Blk, ((l.length : Int) == 0) = decide (l = []) := fun l => by
    cases l with
    | nil => rfl
    | cons x l => simp; omega
  refine ⟨decide (bksE xs ys = []), len _, ?_, ?_, (nil _ _).2 (by rw [e3]; exact none_own _)⟩
  · rw [rowsP_len, rowsP_len, Bool.eq_iff_iff, beq_iff_eq, decide_eq_true_eq, nil]
    have := all_iff (prsE xs ys)
    rw [this]
    unfold chnE
    omega
  · rw [len]
    congr 1
    rw [eq_iff_iff, nil, nil, e1, e2]
    exact none_swap _ _
set_option maxRecDepth 100000 in
set_option maxHeartbeats 8000000 in
theorem law5 (a1 : Option Addr) (n1 c1 : Nat) (xs : List Tok) (a2 : Option Addr) (n2 c2 : Nat) (ys : List Tok) (w : World) (h1 : Toks w a1 n1 xs) (h2 : Toks w a2 n2 ys) (hev : EV w) :
    Calls Tryz.prog 5 #[.slice a1 n1 c1, .slice a2 n2 c2] w fun e w' => e = .returned (.bool true) ∧ Below w.heap.size w w' := by
  have HF := Lib.hid (fine22 (some ⟨w.heap.size, 0, none⟩) 2 2 [xs, ys] _ (fineTwo (c1 := c1) (c2 := c2) h1 h2) (hev.mono (Nat.le_refl _) (balloc _ _)))
  have HAW := Lib.hid (fun W (hb : Below w.heap.size w W) => awake13 W (hev.mono (Nat.le_refl _) hb))
  have HPP := Lib.hid (fun W (hb : Below w.heap.size w W) => PairsP xs ys a1 n1 c1 a2 n2 c2 W (h1.mono (Nat.le_refl _) hb) (h2.mono (Nat.le_refl _) hb) (hev.mono (Nat.le_refl _) hb))
  have HCP := Lib.hid (fun W (hb : Below w.heap.size w W) => ChainP xs ys a1 n1 c1 a2 n2 c2 W (h1.mono (Nat.le_refl _) hb) (h2.mono (Nat.le_refl _) hb) (hev.mono (Nat.le_refl _) hb))
  have HD1 := Lib.hid (fun W (hb : Below w.heap.size w W) => DistanceP xs ys a1 n1 c1 a2 n2 c2 W (h1.mono (Nat.le_refl _) hb) (h2.mono (Nat.le_refl _) hb) (hev.mono (Nat.le_refl _) hb))
  have HD2 := Lib.hid (fun W (hb : Below w.heap.size w W) => DistanceP ys xs a2 n2 c2 a1 n1 c1 W (h2.mono (Nat.le_refl _) hb) (h1.mono (Nat.le_refl _) hb) (hev.mono (Nat.le_refl _) hb))
  have HD3 := Lib.hid (fun W (hb : Below w.heap.size w W) => DistanceP xs xs a1 n1 c1 a1 n1 c1 W (h1.mono (Nat.le_refl _) hb) (h1.mono (Nat.le_refl _) hb) (hev.mono (Nat.le_refl _) hb))
  clear h1 h2 hev
  go_enter Tryz.func5, Tryz.ntmps5
  go_wp2_with (fail)
  refine HF.out.mono ?_
  rintro e w1 ⟨hf, hb⟩
  have HB1 := Lib.hid (bstep (balloc w _) hb)
  clear hb
  rcases hf with rfl | ⟨rfl, hf⟩
  · go_wp2_with (fail)
    refine (HAW.out _ HB1.out).mono ?_
    rintro e w2 ⟨rfl, hb⟩
    have HB2 := Lib.hid (bstep HB1.out hb)
    clear hb
    go_wp2_with (fail)
    go_ret
    exact ⟨rfl, HB2.out⟩
  · obtain ⟨k1, k2, k3⟩ := chk_fine hf
    obtain ⟨b, p1, p2, p3, p4⟩ := equal_plain hf
    have hpl : (rowsP (prsE xs ys)).length ≤ 1024 := by rw [rowsP_len]; exact prsE_len
    have HR2 := Lib.hid (show ∀ r ∈ rowsP (prsE xs ys), r.length ≤ 4611686018427387903 from rows_two)
    rw [k1] at HPP HCP HD1
    rw [k2] at HD2
    rw [k3, p4] at HD3
    generalize bksE xs ys = B1 at *
    generalize bksE ys xs = B2 at *
    generalize rowsP (prsE xs ys) = P at *
    generalize rowsP (chnE xs ys) = C at *
    have P1 := Lib.hid p1
    have P2 := Lib.hid p2
    have P3 := Lib.hid p3
    clear hf k1 k2 k3 p1 p2 p3 p4
    go_wp2_with (fail)
    refine (HPP.out _ HB1.out).mono ?_
    rintro e w2 ⟨v, rfl, ho, hb⟩
    obtain ⟨ap, cp, rfl, -⟩ := ho.rows (by omega) HR2.out
    have HB2 := Lib.hid (bstep HB1.out hb)
    clear ho hb
    go_wp2_with (fail)
    refine (HCP.out _ HB2.out).mono ?_
    rintro e w3 ⟨ac, cc, rfl, -, -, hb⟩
    have HB3 := Lib.hid (bstep HB2.out hb)
    clear hb
    go_wp2_with (fail)
    refine (HD1.out _ HB3.out).mono ?_
    rintro e w4 ⟨rfl, hb⟩
    have HB4 := Lib.hid (bstep HB3.out hb)
    clear hb
    go_wp2_with (fail)
    refine (HD2.out _ HB4.out).mono ?_
    rintro e w5 ⟨rfl, hb⟩
    have HB5 := Lib.hid (bstep HB4.out hb)
    clear hb
    go_wp2_with (fail)
    refine (HD3.out _ HB5.out).mono ?_
    rintro e w6 ⟨rfl, hb⟩
    have HB6 := Lib.hid (bstep HB5.out hb)
    clear hb
    generalize B1.length = N1 at *
    generalize B2.length = N2 at *
    generalize P.length = NP at *
    generalize C.length = NC at *
    have p1 := P1.out
    have p2 := P2.out
    have p3 := P3.out
    have d0 : (((([] : List Blk).length : Nat) : Int) == 0) = true := rfl
    cases b
    all_goals
      go_wp2_with (fail)
      refine (HAW.out _ HB6.out).mono ?_
      rintro e w7 ⟨rfl, hb⟩
      have HB7 := Lib.hid (bstep HB6.out hb)
      clear hb
      go_wp2_with (fail)
      go_ret
      exact ⟨rfl, HB7.out⟩
end Go.Proofs.YtbahddjbncinbaaGreatDoor
