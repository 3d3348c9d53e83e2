/-
  The kinds of characters, in plain words.
-/
import Derived.Test.YtamdonlncfmmmaaBase
namespace Go.Ap

def punctL : List Int := [46, 44, 59, 58, 33, 63, 40, 41, 45]
/-- the kind of a character -/
def kindOf (c : Int) : Int :=
  if (97 ≤ c ∧ c ≤ 122) ∨ (65 ≤ c ∧ c ≤ 90) then 1
  else if c = 94 ∨ c = 126 ∨ c = 37 then 2
  else if 48 ≤ c ∧ c ≤ 57 then 3
  else if c = 39 then 4
  else if c = 32 then 6
  else if c ∈ punctL then 5
  else 0

theorem kind_cases (c : Int) : (97 ≤ c ∧ c ≤ 122) ∨ (65 ≤ c ∧ c ≤ 90) ∨ (48 ≤ c ∧ c ≤ 57) ∨ c = 94 ∨ c = 126 ∨ c = 37 ∨ c = 39 ∨ c = 32 ∨ c ∈ punctL ∨
    ((123 ≤ c ∨ (91 ≤ c ∧ c ≤ 96) ∨ (58 ≤ c ∧ c ≤ 64) ∨ c < 48) ∧ c ≠ 94 ∧ c ≠ 126 ∧ c ≠ 37 ∧ c ≠ 39 ∧ c ≠ 32 ∧ c ∉ punctL) := by
  by_cases h : c ∈ punctL
  · simp [h]
  · simp only [h, false_or, not_false_eq_true, and_true]; omega
theorem kind_bound (c : Int) : 0 ≤ kindOf c ∧ kindOf c ≤ 6 := by
  unfold kindOf
  repeat' split
  all_goals omega
end Go.Ap
