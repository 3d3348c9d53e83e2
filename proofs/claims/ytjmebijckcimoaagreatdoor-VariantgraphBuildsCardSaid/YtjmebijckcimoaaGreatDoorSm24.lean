/-
  Equality of lists of numbers (reference), as 0-draw calls.
-/
import Derived.Test.YtjmebijckcimoaaGreatDoorSt24
import Derived.Test.YtjmebijckcimoaaGreatDoorVgk
namespace Go.Ap
theorem take_step {α : Type} {xs ys : List α} {k : Nat} {u v : α} (hx : xs[k]? = some u) (hy : ys[k]? = some v) (h : xs.take k = ys.take k) (he : u = v) : xs.take (k + 1) = ys.take (k + 1) := by
  rw [List.take_add_one, List.take_add_one, hx, hy, h, he]
theorem take_ne {α : Type} {xs ys : List α} {k : Nat} {u v : α} (hx : xs[k]? = some u) (hy : ys[k]? = some v) (he : u ≠ v) : xs ≠ ys := fun e => by
  subst e
  rw [hx] at hy
  exact he (Option.some.inj hy)
theorem take_all {α : Type} {xs ys : List α} {n : Nat} (h1 : xs.length = n) (h2 : ys.length = n) (h : xs.take n = ys.take n) : xs = ys := by
  rwa [List.take_of_length_le (by omega), List.take_of_length_le (by omega)] at h
end Go.Ap
namespace Go.Proofs.YtjmebijckcimoaaGreatDoor
open Go.RowKit Go.Ap Go.Shelf Go.Proofs

attribute [local go_sem] Oper.semAt_some bs_toList empty_toList bs_size bs_extract
set_option maxHeartbeats 2000000 in
theorem sameIq (a a' : Option Addr) (c c' n n' : Nat) (xs ys : List Int) (w : World) (h : Ints w a n xs) (h' : Ints w a' n' ys) : Calls Tryz.prog 45 #[.slice a n c, .slice a' n' c'] w fun e w' => e = .returned (.bool (decide (xs = ys))) ∧ ∃ q, w' = w.drewN q := by
  have hl := h.len
  have hl' := h'.len
  have hs := h.small
  have hs' := h'.small
  have HX := Lib.hid hl
  have HY := Lib.hid hl'
  have H1 := Lib.hid h
  have H2 := Lib.hid h'
  obtain ⟨R, hR⟩ : ∃ R, decide (xs = ys) = R := ⟨_, rfl⟩
  rw [hR]
  have HR := Lib.hid hR
  by_cases hn : n = n'
  · subst hn
    clear h h' hR hl hl'
    go_enter Tryz.func45, Tryz.ntmps45
    go_wp2_with (fail)
    go_loopw [5] (fun iv wr => ∃ k q : Nat, k ≤ n ∧ iv = .int .i64 k ∧ wr = w.drewN q ∧ xs.take k = ys.take k) (fun iv _ => n - (intOf iv).toNat)
    case atStart => exact ⟨0, 0, Nat.zero_le _, rfl, rfl, by simp⟩
    case round =>
      obtain ⟨k, q, hk, rfl, rfl, ht⟩ := hrel
      have HT := Lib.hid ht
      clear ht
      by_cases hkn : k < n
      · obtain ⟨u, b, off, v, hu, rfl, hc, hr⟩ := Sl.at H1.out hkn
        obtain ⟨u', b', off', v', hu', rfl, hc', hr'⟩ := Sl.at H2.out hkn
        obtain ⟨rfl, _⟩ := hr
        obtain ⟨rfl, _⟩ := hr'
        have HU := Lib.hid hu
        have HU' := Lib.hid hu'
        clear hu hu'
        by_cases huv : u = u'
        · have eu : (u != u') = false := by rw [bne_eq_false_iff_eq]; exact huv
          have HE := Lib.hid huv
          clear huv
          go_wp2_with (fail)
          go_quiet (fail)
          go_wp2_with (fail)
          exact ⟨⟨k + 1, q + nq, by omega, by simp, by simp, take_step HU.out HU'.out HT.out HE.out⟩, by simp [intOf]; omega⟩
        · have eu : (u != u') = true := by rw [bne_iff_ne]; exact huv
          have HE := Lib.hid (show R = false by rw [← HR.out]; exact decide_eq_false (take_ne HU.out HU'.out huv))
          clear huv
          go_wp2_with (fail)
          go_quiet (fail)
          go_wp2_with (fail)
          go_ret
          exact ⟨ret_b HE.out.symm, drewN_ex _ _ _⟩
      · obtain rfl : k = n := by omega
        have HE := Lib.hid (show R = true by rw [← HR.out]; exact decide_eq_true (take_all HX.out HY.out HT.out))
        go_wp2_with (fail)
        go_ret
        exact ⟨ret_b HE.out.symm, _, rfl⟩
  · have HE := Lib.hid (show R = false by rw [← hR, decide_eq_false_iff_not]; intro e; exact hn (by rw [← hl, ← hl', e]))
    have dn : ((n : Int) != (n' : Int)) = true := by simp; omega
    clear h h' hR hl hl'
    go_enter Tryz.func45, Tryz.ntmps45
    go_wp2_with (fail)
    go_ret
    exact ⟨ret_b HE.out.symm, 0, rfl⟩
theorem sameI (a a' : Option Addr) (c c' n n' : Nat) (xs ys : List Int) (w : World) (h : Ints w a n xs) (h' : Ints w a' n' ys) : Calls Tryz.prog 45 #[.slice a n c, .slice a' n' c'] w fun e w' => e = .returned (.bool (decide (xs = ys))) ∧ Below w.heap.size w w' :=
  (sameIq a a' c c' n n' xs ys w h h').mono fun e w' ⟨he, q, hq⟩ => ⟨he, by rw [hq]; exact bdrewN w q⟩
end Go.Proofs.YtjmebijckcimoaaGreatDoor
