/-
  The reference's step.
-/
import Derived.Test.YtamdonlncfmmmaaW7
namespace Go.Proofs.Ytamdonlncfmmmaa
open Go.RowKit Go.Ap Go.Shelf Go.Proofs

attribute [local go_sem] Oper.semAt_some bs_toList empty_toList bs_size ext_drop ext_take bs_append

theorem pre_iff {s u : Str} {i : Nat} : u.isPrefixOf (s.drop i) = ((s.drop i).take u.length == u) := by
  rw [Bool.eq_iff_iff, List.isPrefixOf_iff_prefix, List.prefix_iff_eq_take, beq_iff_eq]
  exact eq_comm
theorem pre_len {s u : Str} {i : Nat} (h : u.isPrefixOf (s.drop i) = true) (hi : i ≤ s.length) : i + u.length ≤ s.length := by
  have := (List.isPrefixOf_iff_prefix.1 h).length_le
  rw [List.length_drop] at this
  omega
theorem ext_mid {s : Str} {i k : Nat} : (bs s).extract i (i + k) = bs ((s.drop i).take k) := by
  rw [bs_extract, Nat.add_sub_cancel_left]
attribute [local go_sem] ext_mid

set_option maxHeartbeats 1000000 in
theorem at57 (s u : Str) (i : Nat) (w : World) (hs : s.length ≤ 4611686018427387903) (hu : u.length ≤ 4611686018427387903) (hi : i ≤ s.length) :
    Calls Try.prog 57 #[.string (bs s), .string (bs u), .int .i64 i] w fun e w' => e = .returned (.bool (u.isPrefixOf (s.drop i))) ∧ w = w' := by
  by_cases hl : i + u.length ≤ s.length
  · have d1 : decide ((i : Int) + (u.length : Int) ≤ (s.length : Int)) = true := by simp; omega
    have d2 : decide (i + u.length ≤ s.length) = true := by simpa using hl
    have HP := Lib.hid (pre_iff (s := s) (u := u) (i := i))
    go_enter Try.func57, Try.ntmps57
    go_wp2_with (fail)
    go_ret
    exact ⟨ret_b (by rw [HP.out]), rfl⟩
  · have HP := Lib.hid (show u.isPrefixOf (s.drop i) = false by
      cases h : u.isPrefixOf (s.drop i)
      · rfl
      · exact absurd (pre_len h hi) hl)
    have d1 : decide ((i : Int) + (u.length : Int) ≤ (s.length : Int)) = false := by simp; omega
    have d2 : decide (i + u.length ≤ s.length) = false := by simpa using hl
    go_enter Try.func57, Try.ntmps57
    go_wp2_with (fail)
    go_ret
    exact ⟨ret_b HP.out.symm, rfl⟩

set_option maxHeartbeats 1000000 in
theorem replace58 (s x y : Str) (i : Nat) (w : World) (hs : s.length ≤ 4611686018427387903) (hx : x.length ≤ 4611686018427387903) (hy : y.length ≤ 4611686018427387903) (hi : i + x.length ≤ s.length) :
    Calls Try.prog 58 #[.agg #[.string (bs x), .string (bs y)], .string (bs s), .int .i64 i] w fun e w' => e = .returned (.string (bs (s.take i ++ (y ++ s.drop (i + x.length))))) ∧ Below w.heap.size w w' := by
  have hii : i ≤ s.length := by omega
  have hmin : min i s.length = i := by omega
  have g1 : ¬ 9223372036854775807 < i + y.length := by omega
  have g2 : ¬ 9223372036854775807 < i + y.length + (s.length - (i + x.length)) := by omega
  have w1 : IntKind.i64.wrap ((i : Int) + (x.length : Int)) = (i : Int) + (x.length : Int) := IntWalk.i64_in _ (by omega)
  go_enter Try.func58, Try.ntmps58
  go_wp2_with (fail)
  obtain ⟨W4, hW4⟩ : ∃ W4, w.alloc (.cells #[.string (bs x), .string (bs y)] 46) = W4 := ⟨_, rfl⟩
  have B4 := Lib.hid (show Below w.heap.size w W4 by rw [← hW4]; exact balloc _ _)
  have c40 : W4.cell? ⟨w.heap.size, 0, none⟩ = some (.string (bs x)) := by rw [← hW4]; exact cell_fresh rfl rfl
  have c41 : W4.cell? ⟨w.heap.size, 1, none⟩ = some (.string (bs y)) := by rw [← hW4]; exact cell_fresh rfl rfl
  rw [hW4]
  clear hW4
  go_quiet (fail)
  go_wp2_with (fail)
  go_ret
  exact ⟨by simp, B4.out.trans ((bdrewN _ _).mono B4.out.size)⟩

end Go.Proofs.Ytamdonlncfmmmaa
