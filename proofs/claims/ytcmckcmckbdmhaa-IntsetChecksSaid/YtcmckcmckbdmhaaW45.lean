/-
  The walk of the law's functions 66 and 75 (slices.Values and its closure).
-/
import Derived.Test.YtcmckcmckbdmhaaW44
namespace Go.Proofs.Ytcmckcmckbdmhaa
open Go.RowKit Go.Ap Go.Shelf Go.Proofs

set_option maxRecDepth 100000 in
set_option maxHeartbeats 1000000 in
theorem values75 (F : Fence) (hF : F = Fence.wide) (m : Nat) (hm : 1 ≤ m) (l B n₀ n : Nat) (a : Option Addr) (c : Nat) (xs : List Int) (J Jx : List Int → World → Prop)
    (hY : ∀ pre x W, J pre W → pre.length < xs.length → YieldAt F (m - 1) Try.prog l #[.int .i64 x] W fun e W' =>
      (e = .returned (.bool true) ∧ J (pre ++ [x]) W' ∧ Below n₀ W W') ∨ (e = .returned (.bool false) ∧ Jx (pre ++ [x]) W'))
    (W w0 : World) (hw0 : n₀ = w0.heap.size) (hwW : Below n₀ w0 W) (hI : Ints w0 a n xs)
    (hc : W.cell? ⟨B, 0, none⟩ = some (.slice a n c)) (h0 : J [] W) :
    CallsIn F m Try.prog 75 #[.func (.yield l) #[] #[], .pointer (some ⟨B, 0, none⟩)] W fun e W' => (∃ v, e = .returned v) ∧
      ((∃ ys, ys = xs ∧ J ys W') ∨ (∃ pre, pre <+: xs ∧ Jx pre W')) := by
  subst hF
  have HY := Lib.hid hY
  have HI := Lib.hid hI
  have HIL := Lib.hid hI.len
  have hsm := hI.small
  clear hY hI
  refine callsIn_of_wp Try.func75 rfl trivial ?_ rfl
  simp only [Try.ntmps75, List.size_toArray, List.length_cons, List.length_nil, Nat.reduceAdd, Nat.reduceSub, Array.replicate_succ, Array.replicate_zero, List.push_toArray, List.append_toArray, List.nil_append, List.cons_append]
  gi_wp2
  gi_loopw [7] (fun i wr => ∃ k : Nat, k ≤ n ∧ i = .int .i64 k ∧ J (xs.take k) wr ∧ Below n₀ W wr)
    (fun i _ => n - (intOf i).toNat)
  case atStart => exact ⟨0, Nat.zero_le _, rfl, h0, Below.refl _ _⟩
  case round =>
    obtain ⟨k, hk, rfl, hJs, hnx⟩ := hrel
    by_cases hlt : k < n
    · have hkl : k < xs.length := by rw [HIL.out]; exact hlt
      have hb0 : Below w0.heap.size w0 wr := by rw [← hw0]; exact hwW.trans hnx
      have hI1 := HI.out.mono (Nat.le_refl _) hb0
      obtain ⟨b1, o1, rfl, hc1⟩ := Ints.at hI1 (by omega)
      have hcell := hc1 k hlt
      obtain ⟨fn, tmps, assign, body, hy, hR⟩ := HY.out _ (nth xs k) wr hJs (by rw [List.length_take]; omega)
      have HT := Lib.hid (take_nth hkl)
      have HKL := Lib.hid hkl
      clear hI1 hc1 hkl hJs
      generalize nth xs k = x at *
      gi_wp2_with (fail)
      refine hR.mono ?_
      rintro e W3 (⟨rfl, hJ3, hk3⟩ | ⟨rfl, hJx3⟩)
      · gi_wp2_with (fail)
        go_roundw
        case rel => exact ⟨k + 1, by omega, by simp, by rw [HT.out]; exact hJ3, hnx.trans hk3⟩
        case measure => simp [intOf]; omega
      · gi_wp2_with (fail)
        refine bodyPost_ret (results_none rfl _ _ _) rfl ?_
        exact ⟨⟨_, rfl⟩, .inr ⟨_, by rw [← HT.out]; exact List.take_prefix _ _, hJx3⟩⟩
    · have hE : xs.take k = xs := List.take_of_length_le (by rw [HIL.out]; omega)
      gi_wp2
      go_end0
      exact ⟨⟨_, rfl⟩, .inl ⟨_, rfl, by rw [← hE]; exact hJs⟩⟩

theorem values66 (a : Option Addr) (n c : Nat) (w : World) :
    Calls Try.prog 66 #[.slice a n c] w fun e w' => e = .returned (.func (.func 75) #[] #[.pointer (some ⟨w.heap.size, 0, none⟩)]) ∧ w' = w.alloc (.cells #[.slice a n c] 22) := by
  go_enter Try.func66, Try.ntmps66
  go_wp2
  go_ret
  exact ⟨rfl, rfl⟩

theorem values_stops (B : Nat) (a : Option Addr) (n c : Nat) (xs : List Int) (w : World) (hI : Ints w a n xs) (hc : w.cell? ⟨B, 0, none⟩ = some (.slice a n c)) :
    Seq1 75 #[.pointer (some ⟨B, 0, none⟩)] xs w := fun m hm l J Jx W hW _ _ hY h0 =>
  values75 Fence.wide rfl m hm l B w.heap.size n a c xs J Jx hY W w rfl hW hI ((hW.cell (p := ⟨B, 0, none⟩) (World.block_lt_of_cell? w _ hc)).trans hc) h0

end Go.Proofs.Ytcmckcmckbdmhaa
