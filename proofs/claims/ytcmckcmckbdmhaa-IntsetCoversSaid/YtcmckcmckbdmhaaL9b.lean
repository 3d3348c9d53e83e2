import Derived.Test.YtcmckcmckbdmhaaL9
namespace Go.Proofs.Ytcmckcmckbdmhaa
open Go.RowKit Go.Ap Go.Shelf

def cmpL : List Int → List Int → Int
  | x :: xs, y :: ys => if x = y then cmpL xs ys else if x < y then -1 else 1
  | _, _ => 0
theorem cmpL_neg : ∀ (a b : List Int), decide (cmpL a b < 0) = lessL a b
  | [], b => by rw [cmpL, lessL] <;> simp
  | x :: a, [] => by rw [cmpL, lessL] <;> simp
  | x :: a, y :: b => by
    rw [cmpL, lessL]
    by_cases h : x = y
    · rw [if_pos h, if_pos h]; exact cmpL_neg a b
    · rw [if_neg h, if_neg h]
      by_cases h2 : x < y
      · rw [if_pos h2]; simp [h2]
      · rw [if_neg h2]; simp [h2]
theorem cmpL_wf : ∀ (a b : List Int), cmpL a b = 0 ∨ cmpL a b = 1 ∨ cmpL a b = -1
  | [], b => by left; rw [cmpL]; simp
  | x :: a, [] => by left; rw [cmpL]; simp
  | x :: a, y :: b => by
    rw [cmpL]
    by_cases h : x = y
    · rw [if_pos h]; exact cmpL_wf a b
    · rw [if_neg h]
      by_cases h2 : x < y
      · rw [if_pos h2]; simp
      · rw [if_neg h2]; simp

set_option maxRecDepth 100000 in
set_option maxHeartbeats 2000000 in
theorem compare36 (a b : Option Addr) (n c d : Nat) (xs ys : List Int) (w : World) (hx : Ints w a n xs) (hy : Ints w b n ys) :
    Calls Try.prog 36 #[.slice a n c, .slice b n d] w fun e w' => e = .returned (.int .i64 (cmpL xs ys)) ∧ w = w' := by
  have HX := Lib.hid hx
  have HY := Lib.hid hy
  have HXL := Lib.hid hx.len
  have HYL := Lib.hid hy.len
  have hsm := hx.small
  generalize hr : cmpL xs ys = r
  have HR := Lib.hid hr
  clear hx hy hr
  go_enter Try.func36, Try.ntmps36
  go_wp2_with (fail)
  go_loop [11] (fun i => ∃ k : Nat, k ≤ n ∧ i = .int .i64 k ∧ cmpL (xs.drop k) (ys.drop k) = r) (fun i => n - (intOf i).toNat)
  case atStart => exact ⟨0, by omega, rfl, HR.out⟩
  case round =>
    obtain ⟨k, hk, rfl, hch⟩ := hrel
    have HC := Lib.hid hch
    clear hch
    by_cases hlt : k < n
    · have hkx : k < xs.length := by rw [HXL.out]; exact hlt
      have hky : k < ys.length := by rw [HYL.out]; exact hlt
      obtain ⟨b1, o1, rfl, hc1⟩ := Ints.at HX.out (by omega)
      obtain ⟨b2, o2, rfl, hc2⟩ := Ints.at HY.out (by omega)
      have hcx := hc1 k hlt
      have hcy := hc2 k hlt
      have HS := Lib.hid (show cmpL (xs.drop k) (ys.drop k) = if nth xs k = nth ys k then cmpL (xs.drop (k + 1)) (ys.drop (k + 1)) else if nth xs k < nth ys k then -1 else 1 by
        rw [drop_nth hkx, drop_nth hky, cmpL])
      generalize nth xs k = x at *
      generalize nth ys k = y at *
      have hd : decide ((n : Int) ≤ (k : Int)) = false := by simp; omega
      clear hc1 hc2 hkx hky
      have HQ := Try.cmp_Compare_int x y w
      by_cases he : x = y
      · have hcmp : Go.Lib.compareInt x y = 0 := by rw [Go.Lib.compareInt, if_neg (by omega), if_neg (by omega)]
        rw [hcmp] at HQ
        have HQ := Lib.hid HQ
        have HN := Lib.hid (show cmpL (xs.drop (k + 1)) (ys.drop (k + 1)) = r by rw [← HC.out, HS.out, if_pos he])
        clear he hcmp
        go_wp2_with (fail)
        refine (HQ.out).mono ?_
        rintro e w' ⟨rfl, rfl⟩
        go_wp2_with (fail)
        exact ⟨⟨k + 1, by omega, by go_num, HN.out⟩, by simp [intOf]; omega⟩
      · by_cases hl : x < y
        · have hcmp : Go.Lib.compareInt x y = -1 := by rw [Go.Lib.compareInt, if_pos hl]
          rw [hcmp] at HQ
          have HQ := Lib.hid HQ
          have HN := Lib.hid (show r = -1 by rw [← HC.out, HS.out, if_neg he, if_pos hl])
          clear he hcmp hl
          go_wp2_with (fail)
          refine (HQ.out).mono ?_
          rintro e w' ⟨rfl, rfl⟩
          go_wp2_with (fail)
          go_ret
          exact ⟨by rw [HN.out] <;> rfl, rfl⟩
        · have hcmp : Go.Lib.compareInt x y = 1 := by rw [Go.Lib.compareInt, if_neg hl, if_pos (by omega)]
          rw [hcmp] at HQ
          have HQ := Lib.hid HQ
          have HN := Lib.hid (show r = 1 by rw [← HC.out, HS.out, if_neg he, if_neg hl])
          clear he hcmp hl
          go_wp2_with (fail)
          refine (HQ.out).mono ?_
          rintro e w' ⟨rfl, rfl⟩
          go_wp2_with (fail)
          go_ret
          exact ⟨by rw [HN.out] <;> rfl, rfl⟩
    · obtain rfl : k = n := by omega
      have HN := Lib.hid (show r = 0 by
        rw [← HC.out, List.drop_eq_nil_of_le (by rw [HXL.out]; omega), cmpL]; simp)
      go_wp2_with (fail)
      go_ret
      exact ⟨by rw [HN.out] <;> rfl, rfl⟩

end Go.Proofs.Ytcmckcmckbdmhaa
