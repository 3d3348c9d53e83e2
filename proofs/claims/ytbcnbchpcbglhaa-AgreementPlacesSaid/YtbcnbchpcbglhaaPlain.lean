/-
  Plain laws on tables of states: rows, what Check answers, the pairs of known states, agreements and distances.
-/
import Derived.Test.YtbcnbchpcbglhaaBase
namespace Go.Ap
open Go Go.RowKit

/-- a row, under a name that the walk leaves alone -/
def row (S : List (List Int)) (i : Nat) : List Int := S.getD i []
theorem row_eq {S : List (List Int)} {k : Nat} (h : k < S.length) : row S k = S[k] := by simp [row, h]
theorem row_mem {S : List (List Int)} {k : Nat} (h : k < S.length) : row S k ∈ S := by rw [row_eq h]; exact List.getElem_mem h
theorem row_some {S : List (List Int)} {k : Nat} {r : List Int} (h : S[k]? = some r) : row S k = r := by
  obtain ⟨hk, rfl⟩ := List.getElem?_eq_some_iff.1 h; exact row_eq hk
theorem drop_row {S : List (List Int)} {k : Nat} (h : k < S.length) : S.drop k = row S k :: S.drop (k + 1) := by
  rw [row_eq h]; exact List.drop_eq_getElem_cons h
theorem drop_nth {xs : List Int} {k : Nat} (h : k < xs.length) : xs.drop k = nth xs k :: xs.drop (k + 1) := by
  rw [nth_eq h]; exact List.drop_eq_getElem_cons h
theorem take_nth {xs : List Int} {k : Nat} (h : k < xs.length) : xs.take (k + 1) = xs.take k ++ [nth xs k] := by
  rw [nth_eq h, List.take_succ_eq_append_getElem h]

theorem Rows2.all {w : World} {a : Option Addr} {n : Nat} {S : List (List Int)} (h : Rows2 w a n S) (hn : 0 < n) :
    ∃ b off, a = some ⟨b, off, none⟩ ∧ ∀ k, k < n → ∃ a' n' c', w.cell? ⟨b, off + k, none⟩ = some (.slice a' n' c') ∧ Ints w a' n' (row S k) := by
  obtain ⟨x, b, off, v, _, ha, _, _⟩ := Sl.at h hn
  refine ⟨b, off, ha, fun k hk => ?_⟩
  obtain ⟨y, b', off', v', hy, ha', hc, a', n', c', rfl, hI⟩ := Sl.at h hk
  rw [ha] at ha'
  cases ha'
  exact ⟨a', n', c', hc, by rw [row_some hy]; exact hI⟩

/-- a state that is none -/
def badI (x : Int) : Bool := decide (x < -1) || decide (16 ≤ x)
theorem badI_lo {x : Int} (h : x < -1) : badI x = true := by simp [badI, h]
theorem badI_hi {x : Int} (h : 16 ≤ x) : badI x = true := by simp [badI, h]
theorem badI_no {x : Int} (h : ¬ x < -1) (h' : ¬ 16 ≤ x) : badI x = false := by simp [badI, h, h']
/-- Check, from a row on -/
def chkG (m : Nat) : List (List Int) → Int
  | [] => 0
  | r :: rs => if r.length ≠ m then 9 else if r.any badI = true then 2 else chkG m rs
def chkS (S : List (List Int)) : Int := if S.length = 0 then 5 else if 32 < S.length ∨ 4096 < (row S 0).length then 4 else chkG (row S 0).length S

/-- states that are right -/
structure OkS (S : List (List Int)) (m : Nat) : Prop where
  pos : 0 < S.length
  le : S.length ≤ 32
  wid : m ≤ 4096
  len : ∀ r ∈ S, r.length = m
  good : ∀ r ∈ S, ∀ x ∈ r, -1 ≤ x ∧ x < 16
theorem OkS.row_len {S : List (List Int)} {m k : Nat} (h : OkS S m) (hk : k < S.length) : (row S k).length = m := h.len _ (row_mem hk)

theorem chkG_zero {m : Nat} : ∀ {S : List (List Int)}, chkG m S = 0 → ∀ r ∈ S, r.length = m ∧ ∀ x ∈ r, -1 ≤ x ∧ x < 16
  | [], _, r, hr => by cases hr
  | r0 :: rs, h, r, hr => by
    rw [chkG] at h
    split at h
    · cases h
    · split at h
      · cases h
      · rename_i h1 h2
        rcases List.mem_cons.1 hr with rfl | hr
        · refine ⟨by omega, fun x hx => ?_⟩
          have := List.any_eq_false.1 (by simpa using h2) x hx
          simp [badI] at this
          omega
        · exact chkG_zero h r hr
theorem chkS_ok {S : List (List Int)} (h : chkS S = 0) : OkS S (row S 0).length := by
  unfold chkS at h
  split at h
  · cases h
  · split at h
    · cases h
    · have hg := chkG_zero h
      exact ⟨by omega, by omega, by omega, fun r hr => (hg r hr).1, fun r hr => (hg r hr).2⟩

/-- the pairs of states that are both known, of the first k places -/
def knP (p : Int × Int) : Bool := decide (0 ≤ p.1) && decide (0 ≤ p.2)
def knL (a b : List Int) (k : Nat) : List (Int × Int) := ((List.range k).map fun j => (nth a j, nth b j)).filter knP
section
variable {a b : List Int} {k n : Nat}
theorem knP_no1 {x y : Int} (h : ¬ 0 ≤ x) : knP (x, y) = false := by simp [knP, h]
theorem knP_no2 {x y : Int} (h : ¬ 0 ≤ y) : knP (x, y) = false := by simp [knP, h]
theorem knP_yes {x y : Int} (h : 0 ≤ x) (h' : 0 ≤ y) : knP (x, y) = true := by simp [knP, h, h']
theorem knL_yes (h : knP (nth a k, nth b k) = true) : knL a b (k + 1) = knL a b k ++ [(nth a k, nth b k)] := by simp [knL, List.range_succ, h]
theorem knL_no (h : knP (nth a k, nth b k) = false) : knL a b (k + 1) = knL a b k := by simp [knL, List.range_succ, h]
theorem knL_len (a b : List Int) (k : Nat) : (knL a b k).length ≤ k := by
  unfold knL; exact Nat.le_trans (List.length_filter_le _ _) (by simp)
theorem knL_prefix (hk : k ≤ n) : knL a b k <+: knL a b n := by
  obtain ⟨d, rfl⟩ : ∃ d, n = k + d := ⟨n - k, by omega⟩
  unfold knL
  rw [List.range_add, List.map_append, List.filter_append]
  exact List.prefix_append _ _
theorem knL_lt (hk : k < n) (h : knP (nth a k, nth b k) = true) : (knL a b k).length < (knL a b n).length := by
  have h1 := (knL_prefix (a := a) (b := b) (k := k + 1) (n := n) (by omega)).length_le
  rw [knL_yes h, List.length_append, List.length_singleton] at h1
  omega
end
/-- at how many places both are known; at how many they agree -/
def cmpd (a b : List Int) (k : Nat) : Nat := (knL a b k).length
def eqP (p : Int × Int) : Bool := p.1 == p.2
def agr (a b : List Int) (k : Nat) : Nat := ((knL a b k).filter eqP).length
theorem agr_le (a b : List Int) (k : Nat) : agr a b k ≤ cmpd a b k := List.length_filter_le _ _
theorem cmpd_le (a b : List Int) (k : Nat) : cmpd a b k ≤ k := knL_len a b k
/-- the distance of two sources, that are not one -/
def distN (c e : Nat) : Int := if c = 0 then 1000 else (2000 * ((c : Int) - e) + c) / (2 * c)
def dist (a b : List Int) (k : Nat) : Int := distN (cmpd a b k) (agr a b k)
theorem distN_bound {c e : Nat} (h : e ≤ c) : 0 ≤ distN c e ∧ distN c e ≤ 1000 := by
  unfold distN
  split
  · omega
  · rename_i hc
    refine ⟨Int.ediv_nonneg (by omega) (by omega), ?_⟩
    apply Int.le_of_lt_add_one
    apply Int.ediv_lt_of_lt_mul (by omega)
    omega
theorem dist_bound (a b : List Int) (k : Nat) : 0 ≤ dist a b k ∧ dist a b k ≤ 1000 := distN_bound (agr_le a b k)

end Go.Ap
