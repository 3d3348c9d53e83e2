/-
  SameLists.
-/
import Derived.Test.YtamdonlncfmmmaaW18
namespace Go.Proofs.Ytamdonlncfmmmaa
open Go.RowKit Go.Ap Go.Shelf Go.Proofs

attribute [local go_sem] Oper.semAt_some bs_toList empty_toList bs_size ext_drop ext_take bs_append

def StrsV (w : World) (v : Value) (xs : List Str) : Prop := ∃ a c, v = .slice a xs.length c ∧ StrsL w a xs.length xs
abbrev StrsLL := Sl StrsV
theorem StrsLL.drewN {w : World} {q : Nat} {a : Option Addr} {n : Nat} {xs : List (List Str)} (h : StrsLL w a n xs) : StrsLL (w.drewN q) a n xs :=
  ⟨h.len, h.small, fun k x hk => by obtain ⟨b, off, v, h1, h2, a', c', h3, h4⟩ := h.cells k x hk; exact ⟨b, off, v, h1, h2, a', c', h3, h4.drewN⟩⟩
theorem takeL_step {xs ys : List (List Str)} {k : Nat} {x : List Str} (h : xs.take k = ys.take k) (hx : xs[k]? = some x) (hy : ys[k]? = some x) : xs.take (k + 1) = ys.take (k + 1) := by
  rw [List.take_add_one, List.take_add_one, h, hx, hy]
set_option maxHeartbeats 1000000 in
theorem samelists21 (a a' : Option Addr) (c c' n n' : Nat) (xs ys : List (List Str)) (w : World) (h : StrsLL w a n xs) (h' : StrsLL w a' n' ys) : Calls Try.prog 21 #[.slice a n c, .slice a' n' c'] w fun e w' => e = .returned (.bool (decide (xs = ys))) ∧ ∃ q, w' = w.drewN q := by
  have hsm := h.small
  have hsm' := h'.small
  have HL := Lib.hid h.len
  have HL' := Lib.hid h'.len
  have HX := Lib.hid h
  have HY := Lib.hid h'
  clear h h'
  by_cases hn : n = n'
  · subst hn
    have e1 : ((n : Int) != (n : Int)) = false := by simp
    go_enter Try.func21, Try.ntmps21
    go_wp2_with (fail)
    go_loopw [5] (fun kv wr => ∃ k : Nat, k ≤ n ∧ kv = .int .i64 k ∧ xs.take k = ys.take k ∧ ∃ q, wr = w.drewN q) (fun kv _ => n - (intOf kv).toNat)
    case atStart => exact ⟨0, Nat.zero_le _, rfl, by simp, 0, rfl⟩
    case round =>
      obtain ⟨k, hk, rfl, ht, q0, hq0⟩ := hrel
      have HT := Lib.hid ht
      have HQ := Lib.hid hq0
      have HX1 := HX.out.drewN (q := q0)
      have HY1 := HY.out.drewN (q := q0)
      rw [← hq0] at HX1 HY1
      clear ht hq0
      by_cases hkn : k < n
      · have hlx := HL.out
        have hly := HL'.out
        obtain ⟨x, hx⟩ : ∃ x, xs[k]? = some x := ⟨_, List.getElem?_eq_getElem (by omega)⟩
        obtain ⟨y, hy⟩ : ∃ y, ys[k]? = some y := ⟨_, List.getElem?_eq_getElem (by omega)⟩
        obtain ⟨b, off, v, rfl, c1, p, pc, rfl, hpx⟩ := HX1.cells k x hx
        obtain ⟨b', off', v', rfl, c2, p', pc', rfl, hpy⟩ := HY1.cells k y hy
        have HXX := Lib.hid hx
        have HYY := Lib.hid hy
        have H42 := Lib.hid (fun q => same42 p p' pc pc' x.length y.length x y (wr.drewN q) hpx.drewN hpy.drewN)
        clear hx hy hlx hly HX1 HY1 hpx hpy
        by_cases hxy : x = y
        · have e2 : decide (x = y) = true := by simpa using hxy
          have HST := Lib.hid (takeL_step HT.out HXX.out (by rw [hxy]; exact HYY.out))
          clear hxy
          generalize x.length = xl at *
          generalize y.length = yl at *
          rw [e2] at H42
          clear e2
          go_wp2_with (fail)
          go_quiet ((go_at_call 42; exact Calls.quiet_of (H42.out _)))
          go_wp2_with (fail)
          go_roundw
          case rel => exact ⟨k + 1, by omega, by simp, HST.out, q0 + nq, by rw [HQ.out, drewN2]⟩
          case measure => simp [intOf]; omega
        · have e2 : decide (x = y) = false := by simpa using hxy
          have HN := Lib.hid (show ¬ xs = ys from fun e => hxy (by have := HXX.out; rw [e, HYY.out] at this; exact (Option.some.inj this).symm))
          clear hxy
          generalize x.length = xl at *
          generalize y.length = yl at *
          rw [e2] at H42
          clear e2
          go_wp2_with (fail)
          go_quiet ((go_at_call 42; exact Calls.quiet_of (H42.out _)))
          go_wp2_with (fail)
          go_ret
          exact ⟨ret_b (by simpa using HN.out), q0 + nq, by rw [HQ.out, drewN2]⟩
      · obtain rfl : n = k := by omega
        have HE := Lib.hid (show xs = ys by have := HT.out; rwa [List.take_of_length_le (by rw [HL.out]; exact Nat.le_refl _), List.take_of_length_le (by rw [HL'.out]; exact Nat.le_refl _)] at this)
        go_wp2_with (fail)
        go_ret
        exact ⟨ret_b (by simpa using HE.out), q0, HQ.out⟩
  · have e1 : ((n : Int) != (n' : Int)) = true := by simp; omega
    have HN := Lib.hid (show ¬ xs = ys from fun e => hn (by rw [← HL.out, ← HL'.out, e]))
    clear hn
    go_enter Try.func21, Try.ntmps21
    go_wp2_with (fail)
    go_ret
    exact ⟨ret_b (by simpa using HN.out), 0, rfl⟩
end Go.Proofs.Ytamdonlncfmmmaa
