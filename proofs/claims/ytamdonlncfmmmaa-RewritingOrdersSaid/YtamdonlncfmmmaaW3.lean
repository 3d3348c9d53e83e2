/-
  right: why a rule is not valid.
-/
import Derived.Test.YtamdonlncfmmmaaW2
namespace Go.Proofs.Ytamdonlncfmmmaa
open Go.RowKit Go.Ap Go.Shelf Go.Proofs
attribute [local go_sem] bs_toList empty_toList bs_size

set_option maxRecDepth 100000 in
set_option maxHeartbeats 2000000 in
theorem right46 (x y : Str) (w : World) (hx : x.length ≤ 4611686018427387903) (hy : y.length ≤ 4611686018427387903) :
    Calls Try.prog 46 #[.agg #[.string (bs x), .string (bs y)]] w fun e w' => e = .returned (.int .i64 (rightB (x, y))) ∧ Below w.heap.size w w' := by
  have HX := fun W => wordly53 (bs x) W (by rw [bs_size]; exact hx)
  have HY := fun W => wordly53 (bs y) W (by rw [bs_size]; exact hy)
  simp only [bs_list] at HX HY
  by_cases h1 : x = []
  · subst h1
    have K : rightB ([], y) = 5 := by simp [rightB]
    rw [K]
    clear K
    clear HX HY
    go_enter Try.func46, Try.ntmps46
    go_wp2_with (fail)
    go_ret
    exact ⟨rfl, balloc _ _⟩
  have e1 : (x == []) = false := by simpa using h1
  have e1b : x.isEmpty = false := by simpa using h1
  by_cases h2 : y = []
  · subst h2
    have K : rightB (x, []) = 5 := by simp [rightB]
    rw [K]
    clear K
    clear HX HY h1
    go_enter Try.func46, Try.ntmps46
    go_wp2_with (fail)
    go_ret
    exact ⟨rfl, balloc _ _⟩
  have e2 : (y == []) = false := by simpa using h2
  have e2b : y.isEmpty = false := by simpa using h2
  by_cases h3 : 64 < x.length
  · have K : rightB (x, y) = 4 := by simp [rightB, h1, h2, h3]
    rw [K]
    clear K
    have d3 : decide (64 < (x.length : Int)) = true := by simp; omega
    clear HX HY h1 h2 h3
    go_enter Try.func46, Try.ntmps46
    go_wp2_with (fail)
    go_ret
    exact ⟨rfl, balloc _ _⟩
  have d3 : decide (64 < (x.length : Int)) = false := by simp; omega
  by_cases h4 : 64 < y.length
  · have K : rightB (x, y) = 4 := by simp [rightB, h1, h2, h4]
    rw [K]
    clear K
    have d4 : decide (64 < (y.length : Int)) = true := by simp; omega
    clear HX HY h1 h2 h3 h4
    go_enter Try.func46, Try.ntmps46
    go_wp2_with (fail)
    go_ret
    exact ⟨rfl, balloc _ _⟩
  have d4 : decide (64 < (y.length : Int)) = false := by simp; omega
  cases h5 : wordB x
  · have K : rightB (x, y) = 11 := by simp [rightB, h1, h2, h5]; omega
    rw [K]
    clear K
    rw [h5] at HX
    have HX := Lib.hid HX
    clear HY h1 h2 h3 h4 h5
    go_enter Try.func46, Try.ntmps46
    go_wp2_with (fail)
    refine (HX.out _).mono ?_
    rintro e w1 ⟨rfl, rfl⟩
    go_wp2_with (fail)
    go_ret
    exact ⟨rfl, balloc _ _⟩
  rw [h5] at HX
  cases h6 : wordB y
  · have K : rightB (x, y) = 11 := by simp [rightB, h1, h2, h6]; omega
    rw [K]
    clear K
    rw [h6] at HY
    have HX := Lib.hid HX
    have HY := Lib.hid HY
    clear h1 h2 h3 h4 h5 h6
    go_enter Try.func46, Try.ntmps46
    go_wp2_with (fail)
    refine (HX.out _).mono ?_
    rintro e w1 ⟨rfl, rfl⟩
    go_wp2_with (fail)
    refine (HY.out _).mono ?_
    rintro e w1 ⟨rfl, rfl⟩
    go_wp2_with (fail)
    go_ret
    exact ⟨rfl, balloc _ _⟩
  rw [h6] at HY
  have KK : rightB (x, y) = if x.length < y.length ∨ (y.length = x.length ∧ ¬ y < x) then 24 else 0 := by
    simp only [rightB, h1, h2, h5, h6]
    rw [if_neg (by simp), if_neg (by omega), if_neg (by simp)]
  by_cases h7 : x.length < y.length
  · have K : rightB (x, y) = 24 := by rw [KK, if_pos (.inl h7)]
    rw [K]
    clear K
    clear KK
    have d7 : decide ((x.length : Int) < (y.length : Int)) = true := by simp; omega
    have d7n : decide (x.length < y.length) = true := by simp; omega
    have HX := Lib.hid HX
    have HY := Lib.hid HY
    clear h1 h2 h3 h4 h5 h6 h7
    go_enter Try.func46, Try.ntmps46
    go_wp2_with (fail)
    refine (HX.out _).mono ?_
    rintro e w1 ⟨rfl, rfl⟩
    go_wp2_with (fail)
    refine (HY.out _).mono ?_
    rintro e w1 ⟨rfl, rfl⟩
    go_wp2_with (fail)
    go_ret
    exact ⟨rfl, balloc _ _⟩
  have d7 : decide ((x.length : Int) < (y.length : Int)) = false := by simp; omega
  have d7n : decide (x.length < y.length) = false := by simp; omega
  by_cases h8 : y.length = x.length
  · have d8 : ((y.length : Int) == (x.length : Int)) = true := by simp; omega
    by_cases h9 : y < x
    · have K : rightB (x, y) = 0 := by rw [KK, if_neg (by simp only [h9, not_true, and_false, or_false]; exact h7)]
      rw [K]
      clear K
      clear KK
      have d9 : Op.bytesLess y x = true := by rw [less_eq]; simpa using h9
      have HX := Lib.hid HX
      have HY := Lib.hid HY
      clear h1 h2 h3 h4 h5 h6 h7 h8 h9
      go_enter Try.func46, Try.ntmps46
      go_wp2_with (fail)
      refine (HX.out _).mono ?_
      rintro e w1 ⟨rfl, rfl⟩
      go_wp2_with (fail)
      refine (HY.out _).mono ?_
      rintro e w1 ⟨rfl, rfl⟩
      go_wp2_with (fail)
      go_ret
      exact ⟨rfl, balloc _ _⟩
    · have K : rightB (x, y) = 24 := by rw [KK, if_pos (.inr ⟨h8, h9⟩)]
      rw [K]
      clear K
      clear KK
      have d9 : Op.bytesLess y x = false := by rw [less_eq]; simpa using h9
      have HX := Lib.hid HX
      have HY := Lib.hid HY
      clear h1 h2 h3 h4 h5 h6 h7 h8 h9
      go_enter Try.func46, Try.ntmps46
      go_wp2_with (fail)
      refine (HX.out _).mono ?_
      rintro e w1 ⟨rfl, rfl⟩
      go_wp2_with (fail)
      refine (HY.out _).mono ?_
      rintro e w1 ⟨rfl, rfl⟩
      go_wp2_with (fail)
      go_ret
      exact ⟨rfl, balloc _ _⟩
  · have d8 : ((y.length : Int) == (x.length : Int)) = false := by simp; omega
    have K : rightB (x, y) = 0 := by rw [KK, if_neg (by omega)]
    rw [K]
    clear K
    clear KK
    have HX := Lib.hid HX
    have HY := Lib.hid HY
    clear h1 h2 h3 h4 h5 h6 h7 h8
    go_enter Try.func46, Try.ntmps46
    go_wp2_with (fail)
    refine (HX.out _).mono ?_
    rintro e w1 ⟨rfl, rfl⟩
    go_wp2_with (fail)
    refine (HY.out _).mono ?_
    rintro e w1 ⟨rfl, rfl⟩
    go_wp2_with (fail)
    go_ret
    exact ⟨rfl, balloc _ _⟩

end Go.Proofs.Ytamdonlncfmmmaa
