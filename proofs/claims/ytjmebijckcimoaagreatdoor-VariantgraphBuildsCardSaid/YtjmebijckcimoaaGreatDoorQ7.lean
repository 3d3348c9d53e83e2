import Derived.Test.YtjmebijckcimoaaGreatDoorRnc


namespace Go.Proofs.YtjmebijckcimoaaGreatDoor
open Go.RowKit Go.Ap Go.Shelf Go.Proofs

attribute [local go_sem] Oper.semAt_some bs_toList empty_toList bs_size bs_extract

set_option maxHeartbeats 1000000 in
theorem gtNames (sec : Str) (a : Option Addr) (n c : Nat) (sig : List Str) (w : World) (h : StrsL w a n sig) :
    Calls Tryz.prog 38 #[.string (bs sec), .slice a n c] w fun e w' => (∃ b, e = .returned (.bool b)) ∧ w = w' := by
  have hl := h.len
  have hs := h.small
  have H1 := Lib.hid h
  clear h
  go_enter Tryz.func38, Tryz.ntmps38
  go_wp2_with (fail)
  go_loopw [5] (fun iv wr => ∃ i : Nat, i ≤ n ∧ iv = .int .i64 i ∧ w = wr) (fun iv _ => n - (intOf iv).toNat)
  case atStart => exact ⟨0, Nat.zero_le _, rfl, rfl⟩
  case round =>
    obtain ⟨i, hi, rfl, rfl⟩ := hrel
    by_cases hlt : i < n
    · obtain ⟨b, off, rfl, hcl⟩ := H1.out.at (by omega)
      have hil : i < sig.length := by omega
      have hci := hcl i sig[i] (List.getElem?_eq_getElem hil)
      obtain ⟨s, hs⟩ : ∃ s, sig[i] = s := ⟨_, rfl⟩
      rw [hs] at hci
      clear hcl hs
      cases h20 : decide ((20 : Int) < (s.length : Int))
      · go_wp2_with (fail)
        exact ⟨⟨i + 1, by omega, by simp, trivial⟩, by simp [intOf]; omega⟩
      · go_wp2_with (fail)
        go_ret
        exact ⟨⟨_, rfl⟩, rfl⟩
    · obtain rfl : i = n := by omega
      go_wp2_with (fail)
      go_ret
      exact ⟨⟨_, rfl⟩, rfl⟩
theorem pow_le {i : Nat} : 7 ^ (min i 4) ≤ 2401 := by
  have : 7 ^ (min i 4) ≤ 7 ^ 4 := Nat.pow_le_pow_right (by decide) (Nat.min_le_right _ _)
  exact this
theorem pow_step {i N m : Nat} (hi : i < 4) (hN : N ≤ 7 ^ (min i 4)) (hm : m ≤ 6) : N * (m + 1) ≤ 7 ^ (min (i + 1) 4) := by
  rw [Nat.min_eq_left (by omega)] at hN ⊢
  rw [Nat.pow_succ]
  exact Nat.mul_le_mul hN (by omega)

set_option maxRecDepth 100000 in
set_option maxHeartbeats 4000000 in
theorem gtToks (a : Option Addr) (n c : Nat) (tk : List (List Tok)) (w : World) (h : Toks2 w a n tk) :
    Calls Tryz.prog 37 #[.slice a n c] w fun e w' => (∃ b, e = .returned (.bool b)) ∧ Below w.heap.size w w' := by
  have hs := h.small
  have H2 := Lib.hid h
  clear h
  go_enter Tryz.func37, Tryz.ntmps37
  go_wp2_with (fail)
  go_loopw [3, 4] (fun nv iv wr => ∃ i N : Nat, i ≤ n ∧ iv = .int .i64 i ∧ nv = .int .i64 N ∧ N ≤ 7 ^ (min i 4) ∧ Below w.heap.size w wr) (fun _ iv _ => n - (intOf iv).toNat)
  case atStart => exact ⟨0, 1, Nat.zero_le _, rfl, rfl, Nat.le_refl _, Below.refl _ _⟩
  case round =>
    obtain ⟨i, N, hi, rfl, rfl, hN, hb⟩ := hrel
    have HB := Lib.hid hb
    have HNN := Lib.hid hN
    have hN2 : N ≤ 2401 := Nat.le_trans hN pow_le
    clear hN
    by_cases hlt : i < n
    · obtain ⟨l, b, off, v, hl, rfl, hcv0, a', m, c', rfl, ht⟩ := H2.out.at hlt
      have hcv := cell_keep hb hcv0
      have HCV := Lib.hid hcv0
      have HT := Lib.hid ht
      have hms := ht.small
      clear hl ht hcv0 hb
      by_cases h6 : 6 < m
      · have d6 : decide ((6 : Int) < (m : Int)) = true := by simp; omega
        clear h6
        go_wp2_with (fail)
        go_ret
        exact ⟨⟨_, rfl⟩, HB.out⟩
      · have d6 : decide ((6 : Int) < (m : Int)) = false := by simp; omega
        by_cases h4 : i < 4
        · have d4 : decide ((4 : Int) ≤ (i : Int)) = false := by simp; omega
          have d4' : decide ((i : Int) < (4 : Int)) = true := by simp; omega
          have HST := Lib.hid (pow_step h4 HNN.out (show m ≤ 6 by omega))
          have hnm : N * (m + 1) ≤ 2401 * 7 := Nat.mul_le_mul hN2 (by omega)
          have hcast : (N : Int) * ((m : Int) + 1) = ((N * (m + 1) : Nat) : Int) := by push_cast; rfl
          have g1 : (N : Int) * ((m : Int) + 1) ≤ 9223372036854775807 := by rw [hcast]; omega
          have g2 : -9223372036854775808 ≤ (N : Int) * ((m : Int) + 1) := by rw [hcast]; omega
          have HCAST := Lib.hid hcast
          clear hnm hcast h4 h6
          go_wp2_with (fail)
          clear hcv
          go_loopw [5] (fun jv wj => ∃ j : Nat, j ≤ m ∧ jv = .int .i64 j ∧ Below w.heap.size w wj) (fun jv _ => m - (intOf jv).toNat)
          case atStart => exact ⟨0, Nat.zero_le _, rfl, HB.out⟩
          case round =>
            obtain ⟨j, hj, rfl, hbj⟩ := hrel
            have HBJ := Lib.hid hbj
            have hcv := cell_keep hbj HCV.out
            by_cases hjm : j < m
            · obtain ⟨t, b6, o6, ht, rfl, ⟨⟨q0, q1, q2, q3, q4, q5⟩, hts⟩⟩ := (HT.out.mono (Nat.le_refl _) hbj).at hjm
              clear ht hts hbj
              cases h1 : decide ((12 : Int) < (t.text.length : Int))
              · cases h2 : decide ((12 : Int) < (t.norm.length : Int))
                · cases h3 : decide ((20 : Int) < (t.page.length : Int))
                  · cases h4 : decide ((20 : Int) < (t.name.length : Int))
                    · go_wp2_with (fail)
                      exact ⟨⟨j + 1, by omega, by simp, bstep HBJ.out (balloc _ _)⟩, by simp [intOf]; omega⟩
                    · go_wp2_with (fail)
                      go_ret; exact ⟨⟨_, rfl⟩, bstep HBJ.out (balloc _ _)⟩
                  · go_wp2_with (fail)
                    go_ret; exact ⟨⟨_, rfl⟩, bstep HBJ.out (balloc _ _)⟩
                · go_wp2_with (fail)
                  go_ret; exact ⟨⟨_, rfl⟩, bstep HBJ.out (balloc _ _)⟩
              · go_wp2_with (fail)
                go_ret; exact ⟨⟨_, rfl⟩, bstep HBJ.out (balloc _ _)⟩
            · obtain rfl : j = m := by omega
              clear hbj
              go_wp2_with (fail)
              exact ⟨⟨i + 1, N * (j + 1), by omega, by simp, by first | rfl | rw [HCAST.out], HST.out, HBJ.out⟩, by simp [intOf]; omega⟩
        · have d4 : decide ((4 : Int) ≤ (i : Int)) = true := by simp; omega
          have d4' : decide ((i : Int) < (4 : Int)) = false := by simp; omega
          have HST := Lib.hid (show N ≤ 7 ^ (min (i + 1) 4) by rw [Nat.min_eq_right (by omega)]; have := HNN.out; rwa [Nat.min_eq_right (by omega)] at this)
          by_cases hm1 : 1 < m
          · have d1 : decide ((1 : Int) < (m : Int)) = true := by simp; omega
            clear hm1 h4 h6
            go_wp2_with (fail)
            go_ret
            exact ⟨⟨_, rfl⟩, HB.out⟩
          · have d1 : decide ((1 : Int) < (m : Int)) = false := by simp; omega
            clear hm1 h4 h6
            go_wp2_with (fail)
            clear hcv
            go_loopw [5] (fun jv wj => ∃ j : Nat, j ≤ m ∧ jv = .int .i64 j ∧ Below w.heap.size w wj) (fun jv _ => m - (intOf jv).toNat)
            case atStart => exact ⟨0, Nat.zero_le _, rfl, HB.out⟩
            case round =>
              obtain ⟨j, hj, rfl, hbj⟩ := hrel
              have HBJ := Lib.hid hbj
              have hcv := cell_keep hbj HCV.out
              by_cases hjm : j < m
              · obtain ⟨t, b6, o6, ht, rfl, ⟨⟨q0, q1, q2, q3, q4, q5⟩, hts⟩⟩ := (HT.out.mono (Nat.le_refl _) hbj).at hjm
                clear ht hts hbj
                cases h1 : decide ((12 : Int) < (t.text.length : Int))
                · cases h2 : decide ((12 : Int) < (t.norm.length : Int))
                  · cases h3 : decide ((20 : Int) < (t.page.length : Int))
                    · cases h4 : decide ((20 : Int) < (t.name.length : Int))
                      · go_wp2_with (fail)
                        exact ⟨⟨j + 1, by omega, by simp, bstep HBJ.out (balloc _ _)⟩, by simp [intOf]; omega⟩
                      · go_wp2_with (fail)
                        go_ret; exact ⟨⟨_, rfl⟩, bstep HBJ.out (balloc _ _)⟩
                    · go_wp2_with (fail)
                      go_ret; exact ⟨⟨_, rfl⟩, bstep HBJ.out (balloc _ _)⟩
                  · go_wp2_with (fail)
                    go_ret; exact ⟨⟨_, rfl⟩, bstep HBJ.out (balloc _ _)⟩
                · go_wp2_with (fail)
                  go_ret; exact ⟨⟨_, rfl⟩, bstep HBJ.out (balloc _ _)⟩
              · obtain rfl : j = m := by omega
                clear hbj
                go_wp2_with (fail)
                exact ⟨⟨i + 1, N, by omega, by simp, rfl, HST.out, HBJ.out⟩, by simp [intOf]; omega⟩
    · obtain rfl : i = n := by omega
      clear hb
      cases e1 : decide ((400 : Int) < (N : Int))
      · cases e2 : decide ((6 : Int) < (i : Int))
        · go_wp2_with (fail)
          go_ret
          exact ⟨⟨_, rfl⟩, HB.out⟩
        · cases e3 : decide ((i : Int) ≤ (32 : Int))
          · go_wp2_with (fail)
            go_ret
            exact ⟨⟨_, rfl⟩, HB.out⟩
          · go_wp2_with (fail)
            go_ret
            exact ⟨⟨_, rfl⟩, HB.out⟩
      · go_wp2_with (fail)
        go_ret
        exact ⟨⟨_, rfl⟩, HB.out⟩
end Go.Proofs.YtjmebijckcimoaaGreatDoor


namespace Go.Proofs.YtjmebijckcimoaaGreatDoor
open Go.RowKit Go.Ap Go.Shelf Go.Proofs

attribute [local go_sem] Oper.semAt_some bs_toList empty_toList bs_size bs_extract

set_option maxRecDepth 100000 in
set_option maxHeartbeats 4000000 in
theorem greatR (x : Coll) (a1 : Option Addr) (n1 c1 : Nat) (a2 : Option Addr) (n2 c2 : Nat) (a3 : Option Addr) (n3 c3 : Nat) (w : World) (h : CollM w a1 a2 a3 n1 n2 n3 x) :
    Calls Tryz.prog 11 #[collV x.sec a1 n1 c1 a2 n2 c2 a3 n3 c3] w fun e w' => (∃ b, e = .returned (.bool b) ∧ (b = false → x.columns.length ≤ 24)) ∧ Below w.heap.size w w' := by
  unfold collV
  have hs1 := h.sigla.small
  have hs3 := h.columns.small
  have hl3 := h.columns.len
  have HT := Lib.hid (fun W (hb : Below w.heap.size w W) => gtToks a2 n2 c2 x.tokens W (Toks2.mono h.tokens (Nat.le_refl _) hb))
  have HN := Lib.hid (fun W (hb : Below w.heap.size w W) => gtNames x.sec a1 n1 c1 x.sigla W (h.sigla.mono (Nat.le_refl _) hb))
  have H3 := Lib.hid h.columns
  clear h
  go_enter Tryz.func11, Tryz.ntmps11
  go_wp2_with (fail)
  obtain ⟨W4, hW4⟩ : ∃ W4, w.alloc (.cells #[.string (bs x.sec), .slice a1 n1 c1, .slice a2 n2 c2, .slice a3 n3 c3] 26) = W4 := ⟨_, rfl⟩
  have B4 : Below w.heap.size w W4 := by rw [← hW4]; exact balloc _ _
  have k0 : W4.cell? ⟨w.heap.size, 0, none⟩ = some (.string (bs x.sec)) := by rw [← hW4]; exact cell_fresh rfl rfl
  have k1 : W4.cell? ⟨w.heap.size, 1, none⟩ = some (.slice a1 n1 c1) := by rw [← hW4]; exact cell_fresh rfl rfl
  have k2 : W4.cell? ⟨w.heap.size, 2, none⟩ = some (.slice a2 n2 c2) := by rw [← hW4]; exact cell_fresh rfl rfl
  have k3 : W4.cell? ⟨w.heap.size, 3, none⟩ = some (.slice a3 n3 c3) := by rw [← hW4]; exact cell_fresh rfl rfl
  rw [hW4]
  clear hW4
  go_loopw [3] (fun iv wr => ∃ i : Nat, i ≤ n3 ∧ iv = .int .i64 i ∧ W4 = wr) (fun iv _ => n3 - (intOf iv).toNat)
  case atStart => exact ⟨0, Nat.zero_le _, rfl, rfl⟩
  case round =>
    obtain ⟨i, hi, rfl, rfl⟩ := hrel
    by_cases hlt : i < n3
    · obtain ⟨c, b, off, v, hc, rfl, hcv0, a', n', c', rfl, hI⟩ := H3.out.at hlt
      have hcv := cell_keep B4 hcv0
      clear hc hcv0 hI
      cases h36 : decide ((36 : Int) < (n' : Int))
      · go_wp2_with (fail)
        exact ⟨⟨i + 1, by omega, by simp, trivial⟩, by simp [intOf]; omega⟩
      · go_wp2_with (fail)
        go_ret
        exact ⟨⟨_, rfl, fun h => by cases h⟩, B4⟩
    · obtain rfl : i = n3 := by omega
      go_wp2_with (fail)
      refine (HT.out _ B4).mono ?_
      rintro e w1 ⟨⟨b, rfl⟩, hb1⟩
      have B5 := bstep B4 hb1
      have q0 := cell_keep hb1 k0
      have q1 := cell_keep hb1 k1
      have q3 := cell_keep hb1 k3
      clear k0 k1 k2 k3 hb1 B4
      cases b
      · by_cases h24 : 24 < i
        · have d24 : decide ((24 : Int) < (i : Int)) = true := by simp; omega
          go_wp2_with (fail)
          go_ret
          exact ⟨⟨_, rfl, fun h => by cases h⟩, B5⟩
        · have d24 : decide ((24 : Int) < (i : Int)) = false := by simp; omega
          have HC := Lib.hid (show x.columns.length ≤ 24 by omega)
          cases h36 : decide ((36 : Int) < (n1 : Int))
          · go_wp2_with (fail)
            refine (HN.out _ B5).mono ?_
            rintro e w2 ⟨⟨b, rfl⟩, rfl⟩
            go_wp2_with (fail)
            go_ret
            exact ⟨⟨_, rfl, fun _ => HC.out⟩, B5⟩
          · go_wp2_with (fail)
            go_ret
            exact ⟨⟨_, rfl, fun _ => HC.out⟩, B5⟩
      · go_wp2_with (fail)
        go_ret
        exact ⟨⟨_, rfl, fun h => by cases h⟩, B5⟩
end Go.Proofs.YtjmebijckcimoaaGreatDoor
