/-
  Long, Same.
-/
import Derived.Test.YtamdonlncfmmmaaW17
namespace Go.Proofs.Ytamdonlncfmmmaa
open Go.RowKit Go.Ap Go.Shelf Go.Proofs

attribute [local go_sem] Oper.semAt_some bs_toList empty_toList bs_size ext_drop ext_take bs_append

def longB (s : Str) (n : Nat) : Bool := decide (n < s.length) && decide (s.length ≤ 64) || decide (68 < s.length)
theorem long12 (s : Str) (n : Nat) (w : World) (hs : s.length ≤ 4611686018427387903) : Calls Try.prog 12 #[.string (bs s), .int .i64 n] w fun e w' => e = .returned (.bool (longB s n)) ∧ w' = w := by
  go_enter Try.func12, Try.ntmps12
  go_wp2_with (fail)
  all_goals go_ret
  all_goals refine ⟨ret_b ?_, rfl⟩
  all_goals rw [Bool.eq_iff_iff]
  all_goals simp [longB]
  all_goals omega

theorem take_step {xs ys : List Str} {k : Nat} {x : Str} (h : xs.take k = ys.take k) (hx : xs[k]? = some x) (hy : ys[k]? = some x) : xs.take (k + 1) = ys.take (k + 1) := by
  rw [List.take_add_one, List.take_add_one, h, hx, hy]

set_option maxHeartbeats 1000000 in
theorem same42 (a a' : Option Addr) (c c' n n' : Nat) (xs ys : List Str) (w : World) (h : StrsL w a n xs) (h' : StrsL w a' n' ys) : Calls Try.prog 42 #[.slice a n c, .slice a' n' c'] w fun e w' => e = .returned (.bool (decide (xs = ys))) ∧ ∃ q, w' = w.drewN q := by
  have hsm := h.small
  have hsm' := h'.small
  have HL := Lib.hid h.len
  have HL' := Lib.hid h'.len
  have HX := Lib.hid h
  have HY := Lib.hid h'
  clear h h'
  by_cases hn : n = n'
  · subst hn
    have e1 : ((n : Int) != (n : Int)) = false := by simp
    go_enter Try.func42, Try.ntmps42
    go_wp2_with (fail)
    go_loopw [5] (fun kv wr => ∃ k : Nat, k ≤ n ∧ kv = .int .i64 k ∧ xs.take k = ys.take k ∧ ∃ q, wr = w.drewN q) (fun kv _ => n - (intOf kv).toNat)
    case atStart => exact ⟨0, Nat.zero_le _, rfl, by simp, 0, rfl⟩
    case round =>
      obtain ⟨k, hk, rfl, ht, q0, hq0⟩ := hrel
      have HT := Lib.hid ht
      have HQ := Lib.hid hq0
      have HX1 := HX.out.drewN (q := q0)
      have HY1 := HY.out.drewN (q := q0)
      rw [← hq0] at HX1 HY1
      clear ht hq0
      by_cases hkn : k < n
      · have hlx := HL.out
        have hly := HL'.out
        obtain ⟨x, hx⟩ : ∃ x, xs[k]? = some x := ⟨_, List.getElem?_eq_getElem (by omega)⟩
        obtain ⟨y, hy⟩ : ∃ y, ys[k]? = some y := ⟨_, List.getElem?_eq_getElem (by omega)⟩
        obtain ⟨b, off, rfl, hcx⟩ := HX1.at (by omega)
        obtain ⟨b', off', rfl, hcy⟩ := HY1.at (by omega)
        have c1 := hcx k x hx
        have c2 := hcy k y hy
        have HXX := Lib.hid hx
        have HYY := Lib.hid hy
        clear hcx hcy hx hy hlx hly HX1 HY1
        by_cases hxy : x = y
        · subst hxy
          go_wp2_with (fail)
          go_quiet (fail)
          go_wp2_with (fail)
          go_roundw
          case rel => exact ⟨k + 1, by omega, by simp, take_step HT.out HXX.out HYY.out, q0 + nq, by rw [HQ.out, drewN2]⟩
          case measure => simp [intOf]; omega
        · have hb : (x == y) = false := by simpa using hxy
          have HN := Lib.hid (show ¬ xs = ys from fun e => hxy (by have := HXX.out; rw [e, HYY.out] at this; exact (Option.some.inj this).symm))
          clear hxy
          go_wp2_with (fail)
          go_quiet (fail)
          go_wp2_with (fail)
          go_ret
          exact ⟨ret_b (by simpa using HN.out), q0 + nq, by rw [HQ.out, drewN2]⟩
      · obtain rfl : n = k := by omega
        have HE := Lib.hid (show xs = ys by have := HT.out; rwa [List.take_of_length_le (by rw [HL.out]; exact Nat.le_refl _), List.take_of_length_le (by rw [HL'.out]; exact Nat.le_refl _)] at this)
        go_wp2_with (fail)
        go_ret
        exact ⟨ret_b (by simpa using HE.out), q0, HQ.out⟩
  · have e1 : ((n : Int) != (n' : Int)) = true := by simp; omega
    have HN := Lib.hid (show ¬ xs = ys from fun e => hn (by rw [← HL.out, ← HL'.out, e]))
    clear hn
    go_enter Try.func42, Try.ntmps42
    go_wp2_with (fail)
    go_ret
    exact ⟨ret_b (by simpa using HN.out), 0, rfl⟩
end Go.Proofs.Ytamdonlncfmmmaa
