/-
  Plain laws on ascending lists of indices, and on what sources share.
-/
import Derived.Test.YtbcnbchpcbglhaaPlain
namespace Go.Ap
open Go Go.RowKit

/-- the ints from 0 to n - 1 for which a test says yes -/
def memb (p : Nat → Bool) (n : Nat) : List Int := ((List.range n).filter p).map fun (k : Nat) => (k : Int)
section
variable {p : Nat → Bool} {k n : Nat}
theorem memb_yes (h : p k = true) : memb p (k + 1) = memb p k ++ [(k : Int)] := by simp [memb, List.range_succ, h]
theorem memb_no (h : p k = false) : memb p (k + 1) = memb p k := by simp [memb, List.range_succ, h]
theorem memb_len (p : Nat → Bool) (k : Nat) : (memb p k).length ≤ k := by
  unfold memb; rw [List.length_map]; exact Nat.le_trans (List.length_filter_le _ _) (by simp)
theorem memb_mem {x : Int} : x ∈ memb p n ↔ ∃ j : Nat, x = j ∧ j < n ∧ p j = true := by
  simp only [memb, List.mem_map, List.mem_filter, List.mem_range]
  constructor
  · rintro ⟨j, ⟨h1, h2⟩, rfl⟩; exact ⟨j, rfl, h1, h2⟩
  · rintro ⟨j, rfl, h1, h2⟩; exact ⟨j, ⟨h1, h2⟩, rfl⟩
theorem memb_pair (p : Nat → Bool) (n : Nat) : (memb p n).Pairwise (· < ·) := by
  unfold memb
  rw [List.pairwise_map]
  exact (List.pairwise_lt_range.filter _).imp (fun h => by omega)
theorem memb_i64 (hn : n ≤ 1000000) : ∀ x ∈ memb p n, I64 x := by
  intro x hx
  obtain ⟨j, rfl, hj, _⟩ := memb_mem.1 hx
  exact ⟨by omega, by omega⟩
theorem memb_congr {q : Nat → Bool} (h : ∀ j, j < n → p j = q j) : memb p n = memb q n := by
  unfold memb
  congr 1
  exact List.filter_congr (fun j hj => h j (List.mem_range.1 hj))
end
theorem asc_ext {xs ys : List Int} (hx : xs.Pairwise (· < ·)) (hy : ys.Pairwise (· < ·)) (h : ∀ k, k ∈ xs ↔ k ∈ ys) : xs = ys := by
  have n1 : xs.Nodup := hx.imp (fun h => by omega)
  have n2 : ys.Nodup := hy.imp (fun h => by omega)
  exact List.Perm.eq_of_pairwise (le := fun a b => a < b) (fun a b _ _ h1 h2 => by omega) hx hy ((List.perm_ext_iff_of_nodup n1 n2).2 h)

/-- sources: ascending, all of them below n -/
def SrcL (n : Nat) (xs : List Int) : Prop := xs.Pairwise (· < ·) ∧ ∀ x ∈ xs, 0 ≤ x ∧ x < n
def hasI (xs : List Int) (x : Int) : Bool := xs.contains x
theorem src_memb {n : Nat} {xs : List Int} (h : SrcL n xs) : memb (fun k => hasI xs k) n = xs :=
  asc_ext (memb_pair _ _) h.1 fun k => by
    rw [memb_mem]
    constructor
    · rintro ⟨j, rfl, _, hp⟩; exact List.contains_iff_mem.1 hp
    · intro hk
      have := h.2 k hk
      exact ⟨k.toNat, by omega, by omega, by unfold hasI; rw [show ((k.toNat : Nat) : Int) = k by omega]; exact List.contains_iff_mem.2 hk⟩

def srcF (n : Nat) (xs : List Int) : Nat → Nat → Int
  | 0, _ => 0
  | f + 1, k => if nth xs k < 0 ∨ (n : Int) ≤ nth xs k then 2 else if 0 < k ∧ nth xs k ≤ nth xs (k - 1) then 10 else srcF n xs f (k + 1)
section
variable {n : Nat} {xs : List Int} {f k : Nat}
theorem srcF_range (h : nth xs k < 0 ∨ (n : Int) ≤ nth xs k) : srcF n xs (f + 1) k = 2 := by rw [srcF, if_pos h]
theorem srcF_order (h : ¬ (nth xs k < 0 ∨ (n : Int) ≤ nth xs k)) (h' : 0 < k ∧ nth xs k ≤ nth xs (k - 1)) : srcF n xs (f + 1) k = 10 := by rw [srcF, if_neg h, if_pos h']
theorem srcF_next (h : ¬ (nth xs k < 0 ∨ (n : Int) ≤ nth xs k)) (h' : ¬ (0 < k ∧ nth xs k ≤ nth xs (k - 1))) : srcF n xs (f + 1) k = srcF n xs f (k + 1) := by rw [srcF, if_neg h, if_neg h']
end
theorem srcF_zero (n : Nat) (xs : List Int) : ∀ f k, srcF n xs f k = 0 → ∀ j, k ≤ j → j < k + f → 0 ≤ nth xs j ∧ nth xs j < n ∧ (0 < j → nth xs (j - 1) < nth xs j)
  | 0, k, _, j, h1, h2 => by omega
  | f + 1, k, h, j, h1, h2 => by
    rw [srcF] at h
    split at h
    · omega
    · split at h
      · omega
      · by_cases hj : j = k
        · subst hj; omega
        · exact srcF_zero n xs f (k + 1) h j (by omega) (by omega)
theorem srcF_zero' (n : Nat) (xs : List Int) : ∀ f k, (∀ j, k ≤ j → j < k + f → 0 ≤ nth xs j ∧ nth xs j < n ∧ (0 < j → nth xs (j - 1) < nth xs j)) → srcF n xs f k = 0
  | 0, k, _ => rfl
  | f + 1, k, h => by
    have hk := h k (Nat.le_refl _) (by omega)
    rw [srcF, if_neg (by omega), if_neg (by omega)]
    exact srcF_zero' n xs f (k + 1) (fun j h1 h2 => h j (by omega) (by omega))
theorem pairwise_of_next (xs : List Int) (h : ∀ j, 0 < j → j < xs.length → nth xs (j - 1) < nth xs j) : xs.Pairwise (· < ·) := by
  have key : ∀ d i, i + 1 + d < xs.length → nth xs i < nth xs (i + 1 + d) := by
    intro d
    induction d with
    | zero => intro i hi; have := h (i + 1) (by omega) hi; simpa using this
    | succ d ih =>
      intro i hi
      have h1 := ih i (by omega)
      have h2 := h (i + 1 + (d + 1)) (by omega) hi
      rw [show i + 1 + (d + 1) - 1 = i + 1 + d by omega] at h2
      omega
  rw [List.pairwise_iff_getElem]
  intro i j hi hj hij
  rw [← nth_eq hi, ← nth_eq hj]
  have := key (j - (i + 1)) i (by omega)
  rwa [show i + 1 + (j - (i + 1)) = j by omega] at this
theorem srcF_iff (n : Nat) (xs : List Int) : srcF n xs xs.length 0 = 0 ↔ SrcL n xs := by
  constructor
  · intro h
    have H := srcF_zero n xs xs.length 0 h
    refine ⟨pairwise_of_next xs (fun j h0 h1 => (H j (by omega) (by omega)).2.2 h0), fun x hx => ?_⟩
    obtain ⟨k, hk, rfl⟩ := List.getElem_of_mem hx
    have := H k (by omega) (by omega)
    rw [nth_eq hk] at this
    exact ⟨this.1, this.2.1⟩
  · intro ⟨h1, h2⟩
    refine srcF_zero' n xs xs.length 0 (fun j _ hj => ?_)
    have hj' : j < xs.length := by omega
    have := h2 _ (nth_mem hj')
    refine ⟨this.1, this.2, fun h0 => ?_⟩
    have hp := List.pairwise_iff_getElem.1 h1 (j - 1) j (by omega) hj' (by omega)
    rwa [← nth_eq, ← nth_eq] at hp

/-- what Shared answers -/
def shrE (S : List (List Int)) (src : List Int) : Int := if chkS S ≠ 0 then 1 else if src.length = 0 then 5 else srcF S.length src src.length 0
/-- the state of the first source at a place -/
def st0 (S : List (List Int)) (src : List Int) (p : Nat) : Int := nth (row S (nth src 0).toNat) p
/-- row i has the state x at place p just if it is a source, for the first k rows -/
def agP (S : List (List Int)) (src : List Int) (p : Nat) (x : Int) (i : Nat) : Bool := (nth (row S i) p == x) == hasI src i
def shP (S : List (List Int)) (src : List Int) (n p : Nat) : Bool := decide (0 ≤ st0 S src p) && (List.range n).all (agP S src p (st0 S src p))
def shrL (S : List (List Int)) (src : List Int) : List Int := if shrE S src = 0 then memb (shP S src S.length) (row S 0).length else []
theorem shrE_zero {S : List (List Int)} {src : List Int} (h : shrE S src = 0) : chkS S = 0 ∧ src.length ≠ 0 ∧ SrcL S.length src := by
  unfold shrE at h
  split at h
  · cases h
  · split at h
    · cases h
    · rename_i h1 h2
      exact ⟨by omega, h2, (srcF_iff _ _).1 h⟩
theorem all_succ {q : Nat → Bool} {k : Nat} : (List.range (k + 1)).all q = ((List.range k).all q && q k) := by
  rw [List.range_succ, List.all_append]; simp

end Go.Ap
