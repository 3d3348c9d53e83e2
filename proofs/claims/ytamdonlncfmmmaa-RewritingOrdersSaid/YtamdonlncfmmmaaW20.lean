/-
  Great.
-/
import Derived.Test.YtamdonlncfmmmaaW19
namespace Go.Proofs.Ytamdonlncfmmmaa
open Go.RowKit Go.Ap Go.Shelf Go.Proofs

attribute [local go_sem] Oper.semAt_some bs_toList empty_toList bs_size ext_drop ext_take bs_append

def greatR (r : Rule) : Bool := longB r.1 5 || longB r.2 5
def greatN (n : Nat) : Bool := decide (5 < n) && decide (n ≤ 64) || decide (68 < n)
def greatB (rs : List Rule) : Bool := greatN rs.length || rs.any greatR
theorem long5 (s : Str) (w : World) (hs : s.length ≤ 4611686018427387903) : Calls Try.prog 12 #[.string (bs s), .int .i64 5] w fun e w' => e = .returned (.bool (longB s 5)) ∧ w' = w := long12 s 5 w hs
theorem any_step {rs : List Rule} {k : Nat} {r : Rule} (h : (rs.take k).any greatR = false) (hr : rs[k]? = some r) (hg : greatR r = false) : (rs.take (k + 1)).any greatR = false := by
  rw [List.take_add_one, List.any_append, h, hr]; simp [hg]
theorem any_hit {rs : List Rule} {k : Nat} {r : Rule} (hr : rs[k]? = some r) (hg : greatR r = true) : greatB rs = true := by
  have : rs.any greatR = true := List.any_eq_true.2 ⟨r, List.mem_of_getElem? hr, hg⟩
  rw [greatB, this, Bool.or_true]
set_option maxHeartbeats 1000000 in
theorem great11 (a : Option Addr) (n c : Nat) (rs : List Rule) (w : World) (h : Rls w a n rs) : Calls Try.prog 11 #[.slice a n c] w fun e w' => e = .returned (.bool (greatB rs)) ∧ w' = w := by
  have hsm := h.small
  have HL := Lib.hid h.len
  have HX := Lib.hid h
  clear h
  cases hg : greatN n
  · have HG := Lib.hid hg
    have hcase : n ≤ 5 ∨ (65 ≤ n ∧ n ≤ 68) := by simp [greatN] at hg; omega
    clear hg
    go_enter Try.func11, Try.ntmps11
    rcases hcase with h1 | ⟨h1, h2⟩
    all_goals go_wp2_with (fail)
    all_goals try omega
    all_goals
      go_loopw [3] (fun kv wr => ∃ k : Nat, k ≤ n ∧ kv = .int .i64 k ∧ (rs.take k).any greatR = false ∧ wr = w) (fun kv _ => n - (intOf kv).toNat)
      case atStart => exact ⟨0, Nat.zero_le _, rfl, by simp, rfl⟩
      case round =>
        obtain ⟨k, hk, rfl, ht, rfl⟩ := hrel
        have HT := Lib.hid ht
        clear ht
        by_cases hkn : k < n
        · obtain ⟨⟨x, y⟩, b, off, hxx, rfl, hc1, hc2, hl1, hl2⟩ := HX.out.at hkn
          simp only at hc1 hc2 hl1 hl2
          have HXX := Lib.hid hxx
          have H1 := Lib.hid (long5 x wr hl1)
          have H2 := Lib.hid (long5 y wr hl2)
          clear hxx
          cases hx : longB x 5
          · have H1o := H1.out
            rw [hx] at H1o
            clear H1
            have H1 := Lib.hid H1o
            clear H1o
            cases hy : longB y 5
            · have H2o := H2.out
              rw [hy] at H2o
              clear H2
              have H2 := Lib.hid H2o
              clear H2o
              have HS := Lib.hid (any_step HT.out HXX.out (show greatR (x, y) = false by simp [greatR, hx, hy]))
              clear hx hy
              go_wp2_with (fail)
              refine H1.out.mono ?_
              rintro e w' ⟨rfl, rfl⟩
              go_wp2_with (fail)
              refine H2.out.mono ?_
              rintro e w' ⟨rfl, rfl⟩
              go_wp2_with (fail)
              go_roundw
              case rel => exact ⟨k + 1, by omega, by simp, HS.out, by first | rfl | trivial⟩
              case measure => simp [intOf]; omega
            · have H2o := H2.out
              rw [hy] at H2o
              clear H2
              have H2 := Lib.hid H2o
              clear H2o
              have HS := Lib.hid (any_hit HXX.out (show greatR (x, y) = true by simp [greatR, hy]))
              clear hx hy
              go_wp2_with (fail)
              refine H1.out.mono ?_
              rintro e w' ⟨rfl, rfl⟩
              go_wp2_with (fail)
              refine H2.out.mono ?_
              rintro e w' ⟨rfl, rfl⟩
              go_wp2_with (fail)
              go_ret
              exact ⟨ret_b HS.out.symm, rfl⟩
          · have H1o := H1.out
            rw [hx] at H1o
            clear H1
            have H1 := Lib.hid H1o
            clear H1o
            have HS := Lib.hid (any_hit HXX.out (show greatR (x, y) = true by simp [greatR, hx]))
            clear hx H2
            go_wp2_with (fail)
            refine H1.out.mono ?_
            rintro e w' ⟨rfl, rfl⟩
            go_wp2_with (fail)
            go_ret
            exact ⟨ret_b HS.out.symm, rfl⟩
        · obtain rfl : n = k := by omega
          have HE := Lib.hid (show greatB rs = false by have := HT.out; rw [List.take_of_length_le (by rw [HL.out]; exact Nat.le_refl _)] at this; rw [greatB, HL.out, HG.out, this]; rfl)
          go_wp2_with (fail)
          go_ret
          exact ⟨ret_b HE.out.symm, rfl⟩
  · have HE := Lib.hid (show greatB rs = true by rw [greatB, HL.out, hg]; rfl)
    have hcase : (6 ≤ n ∧ n ≤ 64) ∨ 69 ≤ n := by simp [greatN] at hg; omega
    clear hg
    go_enter Try.func11, Try.ntmps11
    rcases hcase with ⟨h1, h2⟩ | h1
    all_goals go_wp2_with (fail)
    all_goals try omega
    all_goals go_ret
    all_goals exact ⟨ret_b (by first | (rw [HE.out]; done) | (rw [HE.out]; simp; omega)), rfl⟩
end Go.Proofs.Ytamdonlncfmmmaa
