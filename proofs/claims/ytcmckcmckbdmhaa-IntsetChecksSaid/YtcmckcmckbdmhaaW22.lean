import Derived.Test.YtcmckcmckbdmhaaW21
namespace Go.Proofs.Ytcmckcmckbdmhaa
open Go.RowKit Go.Ap Go.Shelf

theorem within_plain {xs ys : List Int} (hok : okB xs ys = true) : withinB xs ys = xs.all (fun k => hasI ys k) := by
  have hsx : SetL xs := (chk_iff xs).1 (by
    have := Bool.and_eq_true_iff.1 hok
    simpa using this.1)
  rw [withinB, combE, combR, if_pos hok, if_pos hok, ← minus24_plain hsx, beq_self_eq_true, Bool.true_and, Bool.eq_iff_iff, beq_iff_eq, List.length_eq_zero_iff, List.filter_eq_nil_iff, List.all_eq_true]
  constructor
  · intro h k hk; have := h k hk; simpa using this
  · intro h k hk; have := h k hk; simpa using this

set_option maxHeartbeats 1000000 in
theorem refwithin25 (a b : Option Addr) (n m c d : Nat) (xs ys : List Int) (w : World) (hx : Ints w a n xs) (hy : Ints w b m ys) :
    Calls Try.prog 25 #[.slice a n c, .slice b m d] w fun e w' => e = .returned (.tuple #[.bool (withinB xs ys), .int .i64 (combE xs ys)]) ∧ ∃ q, w' = w.drewN q := by
  have H52 := Lib.hid (bad52 a b n m c d xs ys w hx hy)
  cases hok : okB xs ys
  · have hE : combE xs ys = 1 := by rw [combE, hok]; rfl
    have hW : withinB xs ys = false := by rw [withinB, hE]; rfl
    rw [hW, hE]
    rw [hok] at H52
    clear hW hE hok hx hy
    go_enter Try.func25, Try.ntmps25
    go_wp2_with (fail)
    refine (H52.out).mono ?_
    rintro e w' ⟨rfl, q, rfl⟩
    go_wp2_with (fail)
    go_ret2
    exact ⟨rfl, _, rfl⟩
  · have hE : combE xs ys = 0 := by rw [combE, hok]; rfl
    rw [within_plain hok, hE]
    rw [hok] at H52
    have HX := Lib.hid hx
    have HY := Lib.hid hy
    have HL := Lib.hid hx.len
    have hsm := hx.small
    clear hE hok
    generalize hr : xs.all (fun k => hasI ys k) = r
    have HR := Lib.hid hr
    clear hr hx hy
    go_enter Try.func25, Try.ntmps25
    go_wp2_with (fail)
    refine (H52.out).mono ?_
    rintro e w' ⟨rfl, q, rfl⟩
    go_wp2_with (fail)
    go_loop [6] (fun i => ∃ k : Nat, k ≤ n ∧ i = .int .i64 k ∧ (xs.drop k).all (fun k => hasI ys k) = r) (fun i => n - (intOf i).toNat)
    case atStart => exact ⟨0, by omega, rfl, HR.out⟩
    case round =>
      obtain ⟨k, hk, rfl, hch⟩ := hrel
      have HC := Lib.hid hch
      clear hch
      by_cases hlt : k < n
      · have hx1 := HX.out
        obtain ⟨b1, off, rfl, hc⟩ := Ints.at hx1 (by omega)
        have hcell := hc k hlt
        clear hc hx1
        have hd := drop_nth (xs := xs) (k := k) (by rw [HL.out]; exact hlt)
        have H2 := Lib.hid (has53 b m d ys (nth xs k) (w.drewN q) (HY.out.drewN))
        have HD := Lib.hid hd
        clear hd
        cases h2 : hasI ys (nth xs k)
        · rw [h2] at H2
          have hrf : r = false := by rw [← HC.out, HD.out, List.all_cons, h2]; rfl
          have HF := Lib.hid hrf
          clear hrf h2
          go_wp2_with (fail)
          refine (H2.out).mono ?_
          rintro e w' ⟨rfl, rfl⟩
          go_wp2_with (fail)
          go_ret2
          exact ⟨by rw [HF.out]; rfl, _, rfl⟩
        · rw [h2] at H2
          have hrn : (xs.drop (k + 1)).all (fun k => hasI ys k) = r := by rw [← HC.out, HD.out, List.all_cons, h2]; rfl
          have HN := Lib.hid hrn
          clear hrn h2
          go_wp2_with (fail)
          refine (H2.out).mono ?_
          rintro e w' ⟨rfl, rfl⟩
          go_wp2_with (fail)
          exact ⟨⟨k + 1, by omega, by go_num, HN.out⟩, by simp [intOf]; omega⟩
      · have hrt : r = true := by rw [← HC.out, List.drop_eq_nil_of_le (by rw [HL.out]; omega)]; rfl
        have HF := Lib.hid hrt
        clear hrt
        go_wp2_with (fail)
        go_ret2
        exact ⟨by rw [HF.out]; rfl, _, rfl⟩

/-- a list stands before another one of the same length -/
def lessL : List Int → List Int → Bool
  | x :: xs, y :: ys => if x = y then lessL xs ys else decide (x < y)
  | _, _ => false

set_option maxHeartbeats 1000000 in
theorem less58 (a b : Option Addr) (n c d : Nat) (xs ys : List Int) (w : World) (hx : Ints w a n xs) (hy : Ints w b n ys) :
    Calls Try.prog 58 #[.slice a n c, .slice b n d] w fun e w' => e = .returned (.bool (lessL xs ys)) ∧ ∃ q, w' = w.drewN q := by
  have HX := Lib.hid hx
  have HY := Lib.hid hy
  have HLX := Lib.hid hx.len
  have HLY := Lib.hid hy.len
  have hsm := hx.small
  clear hx hy
  generalize hr : lessL xs ys = r
  have HR := Lib.hid hr
  clear hr
  go_enter Try.func58, Try.ntmps58
  go_wp2_with (fail)
  go_loopw [5] (fun i wr => ∃ k q : Nat, k ≤ n ∧ i = .int .i64 k ∧ lessL (xs.drop k) (ys.drop k) = r ∧ wr = w.drewN q) (fun i _ => n - (intOf i).toNat)
  case atStart => exact ⟨0, 0, by omega, rfl, HR.out, rfl⟩
  case round =>
    obtain ⟨k, q, hk, rfl, hch, rfl⟩ := hrel
    have HC := Lib.hid hch
    clear hch
    by_cases hlt : k < n
    · have hx1 := HX.out
      have hy1 := HY.out
      obtain ⟨b1, o1, rfl, hc1⟩ := Ints.at hx1 (by omega)
      obtain ⟨b2, o2, rfl, hc2⟩ := Ints.at hy1 (by omega)
      have hcell1 := hc1 k hlt
      have hcell2 := hc2 k hlt
      clear hc1 hc2 hx1 hy1
      have hd : lessL (xs.drop k) (ys.drop k) = if nth xs k = nth ys k then lessL (xs.drop (k + 1)) (ys.drop (k + 1)) else decide (nth xs k < nth ys k) := by
        rw [drop_nth (xs := xs) (k := k) (by rw [HLX.out]; exact hlt), drop_nth (xs := ys) (k := k) (by rw [HLY.out]; exact hlt), lessL]
      by_cases he : nth xs k = nth ys k
      · rw [if_pos he] at hd
        have HD := Lib.hid hd
        have hb : (nth xs k != nth ys k) = false := by simpa using he
        clear hd he
        go_wp2_with (fail)
        go_quiet (fail)
        go_wp2_with (fail)
        exact ⟨⟨k + 1, _, by omega, by go_num, by rw [← HD.out]; exact HC.out, rfl⟩, by simp [intOf]; omega⟩
      · rw [if_neg he] at hd
        have HD := Lib.hid hd
        have hb : (nth xs k != nth ys k) = true := by simpa using he
        clear hd he
        go_wp2_with (fail)
        go_quiet (fail)
        go_wp2_with (fail)
        go_quiet (fail)
        go_wp2_with (fail)
        go_ret
        exact ⟨ret_b (by rw [← HC.out, HD.out]), by simp only [drewN2]; exact ⟨_, rfl⟩⟩
    · have hrf : r = false := by rw [← HC.out, List.drop_eq_nil_of_le (by rw [HLX.out]; omega)]; rfl
      have HF := Lib.hid hrf
      clear hrf
      go_wp2_with (fail)
      go_ret
      exact ⟨ret_b HF.out.symm, _, rfl⟩

end Go.Proofs.Ytcmckcmckbdmhaa
