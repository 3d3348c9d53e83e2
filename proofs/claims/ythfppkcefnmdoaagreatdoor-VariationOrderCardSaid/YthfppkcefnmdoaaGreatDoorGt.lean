/-
  The sizes that the statements look at.
-/
import Derived.Test.YthfppkcefnmdoaaGreatDoorRc
namespace Go.Proofs.YthfppkcefnmdoaaGreatDoor
open Go.RowKit Go.Ap Go.Shelf Go.Proofs

attribute [local go_sem] Oper.semAt_some bs_toList empty_toList bs_size bs_extract

set_option maxHeartbeats 1000000 in
theorem gtNames (sec : Str) (a : Option Addr) (n c : Nat) (sig : List Str) (w : World) (h : StrsL w a n sig) :
    Calls Tryz.prog 49 #[.string (bs sec), .slice a n c] w fun e w' => (∃ b, e = .returned (.bool b)) ∧ w = w' := by
  have hl := h.len
  have hs := h.small
  have H1 := Lib.hid h
  clear h
  go_enter Tryz.func49, Tryz.ntmps49
  go_wp2_with (fail)
  go_loopw [5] (fun iv wr => ∃ i : Nat, i ≤ n ∧ iv = .int .i64 i ∧ w = wr) (fun iv _ => n - (intOf iv).toNat)
  case atStart => exact ⟨0, Nat.zero_le _, rfl, rfl⟩
  case round =>
    obtain ⟨i, hi, rfl, rfl⟩ := hrel
    by_cases hlt : i < n
    · obtain ⟨b, off, rfl, hcl⟩ := H1.out.at (by omega)
      have hil : i < sig.length := by omega
      have hci := hcl i sig[i] (List.getElem?_eq_getElem hil)
      obtain ⟨s, hs⟩ : ∃ s, sig[i] = s := ⟨_, rfl⟩
      rw [hs] at hci
      clear hcl hs
      cases h20 : decide ((20 : Int) < (s.length : Int))
      · go_wp2_with (fail)
        exact ⟨⟨i + 1, by omega, by simp, trivial⟩, by simp [intOf]; omega⟩
      · go_wp2_with (fail)
        go_ret
        exact ⟨⟨_, rfl⟩, rfl⟩
    · obtain rfl : i = n := by omega
      go_wp2_with (fail)
      go_ret
      exact ⟨⟨_, rfl⟩, rfl⟩
theorem pow_le {i : Nat} : 7 ^ (min i 4) ≤ 2401 := by
  have : 7 ^ (min i 4) ≤ 7 ^ 4 := Nat.pow_le_pow_right (by decide) (Nat.min_le_right _ _)
  exact this
theorem pow_step {i N m : Nat} (hi : i < 4) (hN : N ≤ 7 ^ (min i 4)) (hm : m ≤ 6) : N * (m + 1) ≤ 7 ^ (min (i + 1) 4) := by
  rw [Nat.min_eq_left (by omega)] at hN ⊢
  rw [Nat.pow_succ]
  exact Nat.mul_le_mul hN (by omega)

set_option maxRecDepth 100000 in
set_option maxHeartbeats 4000000 in
theorem gtToks (a : Option Addr) (n c : Nat) (tk : List (List Tok)) (w : World) (h : Toks2 w a n tk) :
    Calls Tryz.prog 48 #[.slice a n c] w fun e w' => (∃ b, e = .returned (.bool b)) ∧ Below w.heap.size w w' := by
  have hs := h.small
  have H2 := Lib.hid h
  clear h
  go_enter Tryz.func48, Tryz.ntmps48
  go_wp2_with (fail)
  go_loopw [3, 4] (fun nv iv wr => ∃ i N : Nat, i ≤ n ∧ iv = .int .i64 i ∧ nv = .int .i64 N ∧ N ≤ 7 ^ (min i 4) ∧ Below w.heap.size w wr) (fun _ iv _ => n - (intOf iv).toNat)
  case atStart => exact ⟨0, 1, Nat.zero_le _, rfl, rfl, Nat.le_refl _, Below.refl _ _⟩
  case round =>
    obtain ⟨i, N, hi, rfl, rfl, hN, hb⟩ := hrel
    have HB := Lib.hid hb
    have HNN := Lib.hid hN
    have hN2 : N ≤ 2401 := Nat.le_trans hN pow_le
    clear hN
    by_cases hlt : i < n
    · obtain ⟨l, b, off, v, hl, rfl, hcv0, a', m, c', rfl, ht⟩ := H2.out.at hlt
      have hcv := cell_keep hb hcv0
      have HCV := Lib.hid hcv0
      have HT := Lib.hid ht
      have hms := ht.small
      clear hl ht hcv0 hb
      by_cases h6 : 6 < m
      · have d6 : decide ((6 : Int) < (m : Int)) = true := by simp; omega
        clear h6
        go_wp2_with (fail)
        go_ret
        exact ⟨⟨_, rfl⟩, HB.out⟩
      · have d6 : decide ((6 : Int) < (m : Int)) = false := by simp; omega
        by_cases h4 : i < 4
        · have d4 : decide ((4 : Int) ≤ (i : Int)) = false := by simp; omega
          have d4' : decide ((i : Int) < (4 : Int)) = true := by simp; omega
          have HST := Lib.hid (pow_step h4 HNN.out (show m ≤ 6 by omega))
          have hnm : N * (m + 1) ≤ 2401 * 7 := Nat.mul_le_mul hN2 (by omega)
          have hcast : (N : Int) * ((m : Int) + 1) = ((N * (m + 1) : Nat) : Int) := by push_cast; rfl
          have g1 : (N : Int) * ((m : Int) + 1) ≤ 9223372036854775807 := by rw [hcast]; omega
          have g2 : -9223372036854775808 ≤ (N : Int) * ((m : Int) + 1) := by rw [hcast]; omega
          have HCAST := Lib.hid hcast
          clear hnm hcast h4 h6
          go_wp2_with (fail)
          clear hcv
          go_loopw [5] (fun jv wj => ∃ j : Nat, j ≤ m ∧ jv = .int .i64 j ∧ Below w.heap.size w wj) (fun jv _ => m - (intOf jv).toNat)
          case atStart => exact ⟨0, Nat.zero_le _, rfl, HB.out⟩
          case round =>
            obtain ⟨j, hj, rfl, hbj⟩ := hrel
            have HBJ := Lib.hid hbj
            have hcv := cell_keep hbj HCV.out
            by_cases hjm : j < m
            · obtain ⟨t, b6, o6, ht, rfl, ⟨⟨q0, q1, q2, q3, q4, q5⟩, hts⟩⟩ := (HT.out.mono (Nat.le_refl _) hbj).at hjm
              clear ht hts hbj
              cases h1 : decide ((12 : Int) < (t.text.length : Int))
              · cases h2 : decide ((12 : Int) < (t.norm.length : Int))
                · cases h3 : decide ((20 : Int) < (t.page.length : Int))
                  · cases h4 : decide ((20 : Int) < (t.name.length : Int))
                    · go_wp2_with (fail)
                      exact ⟨⟨j + 1, by omega, by simp, bstep HBJ.out (balloc _ _)⟩, by simp [intOf]; omega⟩
                    · go_wp2_with (fail)
                      go_ret; exact ⟨⟨_, rfl⟩, bstep HBJ.out (balloc _ _)⟩
                  · go_wp2_with (fail)
                    go_ret; exact ⟨⟨_, rfl⟩, bstep HBJ.out (balloc _ _)⟩
                · go_wp2_with (fail)
                  go_ret; exact ⟨⟨_, rfl⟩, bstep HBJ.out (balloc _ _)⟩
              · go_wp2_with (fail)
                go_ret; exact ⟨⟨_, rfl⟩, bstep HBJ.out (balloc _ _)⟩
            · obtain rfl : j = m := by omega
              clear hbj
              go_wp2_with (fail)
              exact ⟨⟨i + 1, N * (j + 1), by omega, by simp, by first | rfl | rw [HCAST.out], HST.out, HBJ.out⟩, by simp [intOf]; omega⟩
        · have d4 : decide ((4 : Int) ≤ (i : Int)) = true := by simp; omega
          have d4' : decide ((i : Int) < (4 : Int)) = false := by simp; omega
          have HST := Lib.hid (show N ≤ 7 ^ (min (i + 1) 4) by rw [Nat.min_eq_right (by omega)]; have := HNN.out; rwa [Nat.min_eq_right (by omega)] at this)
          by_cases hm1 : 1 < m
          · have d1 : decide ((1 : Int) < (m : Int)) = true := by simp; omega
            clear hm1 h4 h6
            go_wp2_with (fail)
            go_ret
            exact ⟨⟨_, rfl⟩, HB.out⟩
          · have d1 : decide ((1 : Int) < (m : Int)) = false := by simp; omega
            clear hm1 h4 h6
            go_wp2_with (fail)
            clear hcv
            go_loopw [5] (fun jv wj => ∃ j : Nat, j ≤ m ∧ jv = .int .i64 j ∧ Below w.heap.size w wj) (fun jv _ => m - (intOf jv).toNat)
            case atStart => exact ⟨0, Nat.zero_le _, rfl, HB.out⟩
            case round =>
              obtain ⟨j, hj, rfl, hbj⟩ := hrel
              have HBJ := Lib.hid hbj
              have hcv := cell_keep hbj HCV.out
              by_cases hjm : j < m
              · obtain ⟨t, b6, o6, ht, rfl, ⟨⟨q0, q1, q2, q3, q4, q5⟩, hts⟩⟩ := (HT.out.mono (Nat.le_refl _) hbj).at hjm
                clear ht hts hbj
                cases h1 : decide ((12 : Int) < (t.text.length : Int))
                · cases h2 : decide ((12 : Int) < (t.norm.length : Int))
                  · cases h3 : decide ((20 : Int) < (t.page.length : Int))
                    · cases h4 : decide ((20 : Int) < (t.name.length : Int))
                      · go_wp2_with (fail)
                        exact ⟨⟨j + 1, by omega, by simp, bstep HBJ.out (balloc _ _)⟩, by simp [intOf]; omega⟩
                      · go_wp2_with (fail)
                        go_ret; exact ⟨⟨_, rfl⟩, bstep HBJ.out (balloc _ _)⟩
                    · go_wp2_with (fail)
                      go_ret; exact ⟨⟨_, rfl⟩, bstep HBJ.out (balloc _ _)⟩
                  · go_wp2_with (fail)
                    go_ret; exact ⟨⟨_, rfl⟩, bstep HBJ.out (balloc _ _)⟩
                · go_wp2_with (fail)
                  go_ret; exact ⟨⟨_, rfl⟩, bstep HBJ.out (balloc _ _)⟩
              · obtain rfl : j = m := by omega
                clear hbj
                go_wp2_with (fail)
                exact ⟨⟨i + 1, N, by omega, by simp, rfl, HST.out, HBJ.out⟩, by simp [intOf]; omega⟩
    · obtain rfl : i = n := by omega
      clear hb
      cases e1 : decide ((400 : Int) < (N : Int))
      · cases e2 : decide ((6 : Int) < (i : Int))
        · go_wp2_with (fail)
          go_ret
          exact ⟨⟨_, rfl⟩, HB.out⟩
        · cases e3 : decide ((i : Int) ≤ (32 : Int))
          · go_wp2_with (fail)
            go_ret
            exact ⟨⟨_, rfl⟩, HB.out⟩
          · go_wp2_with (fail)
            go_ret
            exact ⟨⟨_, rfl⟩, HB.out⟩
      · go_wp2_with (fail)
        go_ret
        exact ⟨⟨_, rfl⟩, HB.out⟩
end Go.Proofs.YthfppkcefnmdoaaGreatDoor
