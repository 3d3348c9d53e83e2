/-
  Plain laws on bits of 64-bit numbers, for the sets of integers from 0 to 63.
-/
import Derived.Test.YtcmckcmckbdmhaaBase
import Derived.Laws.Bits64b
namespace Go.Ap
open Go Go.RowKit

/-- a set as the bits of a number -/
def bitsN (xs : List Int) : Nat := xs.foldl (fun n k => n ||| 2 ^ k.toNat) 0

theorem bitsN_snoc (xs : List Int) (x : Int) : bitsN (xs ++ [x]) = bitsN xs ||| 2 ^ x.toNat := by simp [bitsN]

theorem foldl_or_testBit (xs : List Int) (a j : Nat) : (xs.foldl (fun n k => n ||| 2 ^ k.toNat) a).testBit j = (a.testBit j || xs.any fun x => decide (x.toNat = j)) := by
  induction xs generalizing a with
  | nil => simp
  | cons x xs ih => rw [List.foldl_cons, ih, List.any_cons, Nat.testBit_or, Nat.testBit_two_pow, Bool.or_assoc]

theorem bitsN_testBit (xs : List Int) (j : Nat) (h : ∀ x ∈ xs, 0 ≤ x) : (bitsN xs).testBit j = xs.contains (j : Int) := by
  rw [bitsN, foldl_or_testBit, Nat.zero_testBit, Bool.false_or, Bool.eq_iff_iff]
  simp only [List.any_eq_true, decide_eq_true_eq, List.contains_iff_mem]
  constructor
  · rintro ⟨x, hx, he⟩
    have := h x hx
    have hj : x = (j : Int) := by omega
    rw [← hj]; exact hx
  · intro hx
    exact ⟨_, hx, by omega⟩

theorem bitsN_lt (xs : List Int) (h : ∀ x ∈ xs, 0 ≤ x ∧ x ≤ 63) : bitsN xs < 2 ^ 64 := by
  apply Nat.lt_pow_two_of_testBit
  intro i hi
  rw [bitsN_testBit xs i (fun x hx => (h x hx).1)]
  cases hc : xs.contains (i : Int)
  · rfl
  · have := h _ (List.contains_iff_mem.1 hc)
    omega

theorem or_shift_u64 (t m : Nat) (ht : t < 18446744073709551616) (hm : m ≤ 63) : bits .or .u64 (t : Int) (IntKind.u64.wrap (2 ^ m)) = ((t ||| 2 ^ m : Nat) : Int) := by
  have h2 : 2 ^ m < 2 ^ 64 := Nat.pow_lt_pow_right (by omega) (by omega)
  have hw : IntKind.u64.wrap (2 ^ m) = ((2 ^ m : Nat) : Int) := by
    rw [IntKind.wrap_u64]
    rw [show ((2 : Int) ^ m) = ((2 ^ m : Nat) : Int) by simp]
    generalize 2 ^ m = q at *
    omega
  rw [hw, bits_or_u64_nat t (2 ^ m) ht (by omega)]

/-- the bits of a that b has not -/
def andNotN (a b : Nat) : Nat := a ^^^ (a &&& b)
theorem andNotN_testBit (a b j : Nat) : (andNotN a b).testBit j = (a.testBit j && !b.testBit j) := by
  unfold andNotN
  rw [Nat.testBit_xor, Nat.testBit_and]
  cases a.testBit j <;> cases b.testBit j <;> rfl
theorem andNot_u64 (a b : Nat) (ha : a < 18446744073709551616) (hb : b < 18446744073709551616) : bits .andNot .u64 (a : Int) (b : Int) = ((andNotN a b : Nat) : Int) := by
  have h1 : (BitVec.ofInt 64 (a : Int)).toNat = a := by
    rw [BitVec.ofInt_natCast, BitVec.toNat_ofNat]; exact Nat.mod_eq_of_lt (by omega)
  have h2 : (BitVec.ofInt 64 (b : Int)).toNat = b := by
    rw [BitVec.ofInt_natCast, BitVec.toNat_ofNat]; exact Nat.mod_eq_of_lt (by omega)
  have key : (BitVec.ofInt 64 (a : Int) &&& ~~~ BitVec.ofInt 64 (b : Int)).toNat = andNotN a b := by
    apply Nat.eq_of_testBit_eq
    intro i
    rw [andNotN_testBit, BitVec.toNat_and, Nat.testBit_and, h1]
    by_cases hi : i < 64
    · rw [← BitVec.getLsbD, BitVec.getLsbD_not, BitVec.getLsbD, h2]; simp [hi]
    · have : a.testBit i = false := Nat.testBit_lt_two_pow (Nat.lt_of_lt_of_le (show a < 2 ^ 64 by omega) (Nat.pow_le_pow_right (by omega) (by omega)))
      rw [this]; rfl
  show IntKind.u64.wrap ((BitVec.ofInt 64 (a : Int) &&& ~~~ BitVec.ofInt 64 (b : Int)).toNat : Int) = _
  have hlt : (BitVec.ofInt 64 (a : Int) &&& ~~~ BitVec.ofInt 64 (b : Int)).toNat < 2 ^ 64 := BitVec.isLt _
  rw [IntKind.wrap_u64, ← key]
  omega

end Go.Ap
