/-
  What rules make of a string, in plain words.
-/
import Derived.Test.YtamdonlncfmmmaaStrs
namespace Go.Ap

/-- the result of a rule at an offset -/
def appl (s : Str) (i : Nat) (r : Rule) : Option Str := if r.1.isPrefixOf (s.drop i) = true then some (s.take i ++ r.2 ++ s.drop (i + r.1.length)) else none
def resAt (rs : List Rule) (s : Str) (i : Nat) : List Str := rs.filterMap (appl s i)
/-- what rules make of a string, by the least offset, then by the first rule -/
def resL (rs : List Rule) (s : Str) : List Str := (List.range s.length).flatMap (resAt rs s)
def upto (rs : List Rule) (s : Str) (i k : Nat) : List Str := (List.range i).flatMap (resAt rs s) ++ resAt (rs.take k) s i
section
variable {rs : List Rule} {s x : Str} {r : Rule} {i k : Nat}
theorem upto_zero : upto rs s 0 0 = [] := by simp [upto, resAt]
theorem upto_row : upto rs s i rs.length = upto rs s (i + 1) 0 := by simp [upto, resAt, List.range_succ]
theorem upto_all : upto rs s s.length 0 = resL rs s := by simp [upto, resAt, resL]
theorem take_succ_of {α : Type} {l : List α} {k : Nat} {x : α} (h : l[k]? = some x) : l.take (k + 1) = l.take k ++ [x] := by
  obtain ⟨hk, rfl⟩ := List.getElem?_eq_some_iff.1 h
  rw [List.take_succ_eq_append_getElem hk]
theorem upto_yes (h : rs[k]? = some r) (ha : appl s i r = some x) : upto rs s i (k + 1) = upto rs s i k ++ [x] := by
  simp [upto, resAt, take_succ_of h, List.filterMap_append, ha]
theorem upto_no (h : rs[k]? = some r) (ha : appl s i r = none) : upto rs s i (k + 1) = upto rs s i k := by
  simp [upto, resAt, take_succ_of h, List.filterMap_append, ha]
theorem range_pre {α : Type} (f : Nat → List α) {i n : Nat} (h : i ≤ n) : (List.range i).flatMap f <+: (List.range n).flatMap f := by
  obtain ⟨d, rfl⟩ : ∃ d, n = i + d := ⟨n - i, by omega⟩
  rw [List.range_add, List.flatMap_append]
  exact List.prefix_append _ _
theorem upto_pre (hi : i < s.length) : upto rs s i k <+: resL rs s := by
  refine List.IsPrefix.trans ?_ (range_pre (resAt rs s) (show i + 1 ≤ s.length by omega))
  refine ⟨resAt (rs.drop k) s i, ?_⟩
  have h1 : resAt (rs.take k) s i ++ resAt (rs.drop k) s i = resAt rs s i := by rw [resAt, resAt, ← List.filterMap_append, List.take_append_drop, resAt]
  rw [upto, List.append_assoc, h1, List.range_succ, List.flatMap_append]
  simp
theorem upto_lt (hi : i < s.length) (h : rs[k]? = some r) (ha : appl s i r = some x) : (upto rs s i k).length < (resL rs s).length := by
  have h1 := (upto_pre (rs := rs) (k := k + 1) hi).length_le
  rw [upto_yes h ha, List.length_append, List.length_singleton] at h1
  omega
end
/-- a step -/
def stepL (rs : List Rule) (s : Str) : Str × Bool := match resL rs s with
  | [] => (s, false)
  | x :: _ => (x, true)
end Go.Ap
