import Derived.Test.YtbcnbchpcbglhaaW1
namespace Go.Proofs.Ytbcnbchpcbglhaa
open Go.RowKit Go.Ap

theorem bad56 (x : Int) (w : World) : Calls Try.prog 56 #[.int .i64 x] w fun e w' => e = .returned (.bool (badI x)) ∧ w = w' := by
  by_cases h : x < -1
  · have d1 : decide (x < -1) = true := by simpa using h
    go_enter Try.func56, Try.ntmps56
    go_wp2_with (fail)
    go_ret
    exact ⟨ret_b (by simp [badI, d1]), rfl⟩
  · have d1 : decide (x < -1) = false := by simpa using h
    go_enter Try.func56, Try.ntmps56
    go_wp2_with (fail)
    go_ret
    exact ⟨ret_b (by simp [badI, d1]), rfl⟩

theorem bads36 (a : Option Addr) (n c : Nat) (xs : List Int) (w : World) (h : Ints w a n xs) :
    Calls Try.prog 36 #[.slice a n c, .func (.func 56) #[] #[]] w fun e w' => e = .returned (.bool (xs.any badI)) ∧ ∃ q, w' = w.drewN q :=
  contf36 badI a n c xs 56 #[] w h (enters_of Try.func56 (by kernel_rfl) rfl) (by
    rintro q x v hx ⟨rfl, _⟩
    exact (bad56 x (w.drewN q)).mono (by rintro e w' ⟨rfl, rfl⟩; exact ⟨rfl, 0, rfl⟩))

set_option maxHeartbeats 1000000 in
theorem check32 (a : Option Addr) (n c : Nat) (S : List (List Int)) (w : World) (h : Rows2 w a n S) :
    Calls Try.prog 32 #[.slice a n c] w fun e w' => e = .returned (.int .i64 (chkS S)) ∧ ∃ q, w' = w.drewN q := by
  have HL := Lib.hid h.len
  have hsm := h.small
  obtain ⟨R, hR⟩ : ∃ R, chkS S = R := ⟨_, rfl⟩
  rw [hR]
  have HR := Lib.hid hR
  clear hR
  by_cases h0 : n = 0
  · subst h0
    have HF := Lib.hid (show R = 5 by rw [← HR.out, chkS, if_pos HL.out])
    go_enter Try.func32, Try.ntmps32
    go_wp2_with (fail)
    go_ret
    exact ⟨ret_i (by rw [HF.out]), 0, rfl⟩
  have b0 : ((n : Int) == 0) = false := by rw [beq_eq_false_iff_ne]; omega
  have hpos : 0 < n := by omega
  obtain ⟨b, off, rfl, hc⟩ := Rows2.all h (by omega)
  have HC := Lib.hid hc
  obtain ⟨a0, n0, c0, hc0, hI0⟩ := hc 0 (by omega)
  simp only [Nat.add_zero] at hc0
  have HN0 := Lib.hid hI0.len
  have hn0 := hI0.small
  clear hc hI0
  by_cases h1 : 32 < n
  · have HF := Lib.hid (show R = 4 by rw [← HR.out, chkS, if_neg (by rw [HL.out]; exact h0), if_pos (.inl (by rw [HL.out]; exact h1))])
    clear h0
    go_enter Try.func32, Try.ntmps32
    go_wp2_with (fail)
    go_ret
    exact ⟨ret_i (by rw [HF.out]), 0, rfl⟩
  by_cases h2 : 4096 < n0
  · have HF := Lib.hid (show R = 4 by rw [← HR.out, chkS, if_neg (by rw [HL.out]; exact h0), if_pos (.inr (by rw [HN0.out]; exact h2))])
    have d1 : decide (32 < (n : Int)) = false := by simp; omega
    have d2 : decide (4096 < (n0 : Int)) = true := by simp; omega
    have d3 : decide (32 < n) = false := by simp; omega
    have d4 : decide (4096 < n0) = true := by simp; omega
    clear h0
    go_enter Try.func32, Try.ntmps32
    go_wp2_with (fail)
    go_ret
    exact ⟨ret_i (by rw [HF.out]), 0, rfl⟩
  have HF := Lib.hid (show chkG n0 S = R by rw [← HR.out, chkS, if_neg (by rw [HL.out]; exact h0), if_neg (by rw [HL.out, HN0.out]; omega), HN0.out])
  have d1 : decide (32 < (n : Int)) = false := by simp; omega
  have d2 : decide (4096 < (n0 : Int)) = false := by simp; omega
  have d3 : decide (32 < n) = false := by simp; omega
  have d4 : decide (4096 < n0) = false := by simp; omega
  clear h0
  go_enter Try.func32, Try.ntmps32
  go_wp2_with (fail)
  go_loopw [22] (fun i wr => ∃ (k q : Nat), k ≤ n ∧ i = .int .i64 k ∧ wr = w.drewN q ∧ chkG n0 (S.drop k) = R) (fun i _ => n - (intOf i).toNat)
  case atStart => exact ⟨0, 0, by omega, rfl, rfl, HF.out⟩
  case round =>
    obtain ⟨k, q, hk, rfl, rfl, hch⟩ := hrel
    have HCH := Lib.hid hch
    clear hch
    by_cases hlt : k < n
    · obtain ⟨a1, n1, c1, hc1, hI1⟩ := HC.out k hlt
      have HL1 := Lib.hid hI1.len
      have hs1 := hI1.small
      have HS := Lib.hid (show S.drop k = row S k :: S.drop (k + 1) from drop_row (by rw [HL.out]; exact hlt))
      have H36 := Lib.hid (bads36 a1 n1 c1 (row S k) (w.drewN q) hI1.drewN)
      clear hI1
      by_cases h3 : n1 = n0
      · subst h3
        cases h4 : (row S k).any badI
        · have HN := Lib.hid (show chkG n1 (S.drop (k + 1)) = R by rw [← HCH.out, HS.out, chkG, if_neg (by rw [HL1.out]; omega), if_neg (by rw [h4]; simp)])
          rw [h4] at H36
          clear h4
          go_wp2_with (fail)
          refine (H36.out).mono ?_
          rintro e w' ⟨rfl, r, rfl⟩
          go_wp2_with (fail)
          exact ⟨⟨k + 1, _, by omega, by go_num, rfl, HN.out⟩, by simp [intOf]; omega⟩
        · have HN := Lib.hid (show R = 2 by rw [← HCH.out, HS.out, chkG, if_neg (by rw [HL1.out]; omega), if_pos h4])
          rw [h4] at H36
          clear h4
          go_wp2_with (fail)
          refine (H36.out).mono ?_
          rintro e w' ⟨rfl, r, rfl⟩
          go_wp2_with (fail)
          go_ret
          exact ⟨ret_i (by rw [HN.out]), _, rfl⟩
      · have HN := Lib.hid (show R = 9 by rw [← HCH.out, HS.out, chkG, if_pos (by rw [HL1.out]; exact h3)])
        have d1 : ((n1 : Int) != n0) = true := by rw [bne_iff_ne]; omega
        clear h3
        go_wp2_with (fail)
        go_ret
        exact ⟨ret_i (by rw [HN.out]), _, rfl⟩
    · have HN := Lib.hid (show R = 0 by rw [← HCH.out, List.drop_eq_nil_of_le (by rw [HL.out]; omega)]; rfl)
      go_wp2_with (fail)
      go_ret
      exact ⟨ret_i (by rw [HN.out]), _, rfl⟩

end Go.Proofs.Ytbcnbchpcbglhaa
