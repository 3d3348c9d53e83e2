/-
  Strings as lists of bytes; slices of strings; slices of rules: plain words, for walks over any program.
-/
import Derived.Test.YtamdonlncfmmmaaKinds
namespace Go.Ap
open Go Go.RowKit

/-- the string that has these bytes -/
def bs (l : List UInt8) : ByteArray := ⟨l.toArray⟩
section
variable {l m : List UInt8}
theorem bs_size : (bs l).size = l.length := by simp [bs, ByteArray.size]
theorem bs_list : (bs l).data.toList = l := rfl
theorem bs_of (s : ByteArray) : s = bs s.data.toList := rfl
theorem bs_inj : bs l = bs m ↔ l = m := ⟨fun h => by have := congrArg (fun s => s.data.toList) h; simpa [bs] using this, fun h => by rw [h]⟩
theorem bs_append : bs l ++ bs m = bs (l ++ m) := by
  apply ByteArray.ext
  apply Array.toList_inj.1
  rw [ByteArray.data_append]
  simp [bs]
theorem bs_extract (a b : Nat) : (bs l).extract a b = bs ((l.drop a).take (b - a)) := by
  apply ByteArray.ext
  apply Array.toList_inj.1
  rw [ByteArray.data_extract]
  simp [bs]
theorem bs_get {k : Nat} (h : k < (bs l).size) : (bs l)[k] = l[k]'(by rw [← bs_size]; exact h) := rfl
end

theorem bs_toList (l : List UInt8) : (bs l).toList = l := by rw [ByteArray.toList_eq]; rfl
theorem empty_toList : ({ data := #[] } : ByteArray).toList = [] := by rw [ByteArray.toList_eq]
/-- the model's order of strings is the order of their bytes -/
theorem less_eq : ∀ (x y : List UInt8), Op.bytesLess x y = decide (x < y)
  | [], [] => by simp [Op.bytesLess]
  | _ :: _, [] => by simp [Op.bytesLess]
  | [], _ :: _ => by simp [Op.bytesLess]
  | a :: x, b :: y => by
    rw [Op.bytesLess, less_eq x y]
    simp only [List.cons_lt_cons_iff]
    by_cases h1 : a < b <;> by_cases h2 : a = b <;> by_cases h3 : x < y <;> simp [h1, h2, h3]

/-- a character of a word -/
def wch (c : UInt8) : Bool := decide (1 ≤ kindOf (c.toNat : Int) ∧ kindOf (c.toNat : Int) ≤ 4)
def wordB (l : List UInt8) : Bool := l.all wch

abbrev Str := List UInt8
abbrev Rule := Str × Str
/-- why a rule is not valid -/
def rightB (x : Rule) : Int :=
  if x.1 = [] ∨ x.2 = [] then 5
  else if 64 < x.1.length ∨ 64 < x.2.length then 4
  else if wordB x.1 = false ∨ wordB x.2 = false then 11
  else if x.1.length < x.2.length ∨ (x.2.length = x.1.length ∧ ¬ x.2 < x.1) then 24
  else 0
/-- the first error of rules -/
def badR : List Rule → Int
  | [] => 0
  | x :: rs => if rightB x = 0 then badR rs else rightB x
def chkR (rs : List Rule) : Int := if 64 < rs.length then 4 else badR rs
/-- the first error of rules and a string -/
def chkW (rs : List Rule) (s : Str) : Int := if chkR rs ≠ 0 then 1 else if 64 < s.length then 4 else if wordB s = false then 11 else 0

/-- a slice of rules -/
structure Rls (w : World) (a : Option Addr) (n : Nat) (rs : List Rule) : Prop where
  len : rs.length = n
  small : n ≤ 4611686018427387903
  cells : ∀ (k : Nat) (x : Rule), rs[k]? = some x → ∃ b off, a = some ⟨b, off, none⟩ ∧ w.cell? ⟨b, off + k * 2, none⟩ = some (.string (bs x.1)) ∧ w.cell? ⟨b, off + k * 2 + 1, none⟩ = some (.string (bs x.2)) ∧ x.1.length ≤ 4611686018427387903 ∧ x.2.length ≤ 4611686018427387903
section
variable {w w' : World} {a : Option Addr} {n : Nat} {rs : List Rule}
theorem Rls.mono {B : Nat} (h : Rls w a n rs) (hB : w.heap.size ≤ B) (hb : Below B w w') : Rls w' a n rs :=
  ⟨h.len, h.small, fun k x hk => by
    obtain ⟨b, off, ha, h1, h2, h3⟩ := h.cells k x hk
    exact ⟨b, off, ha, by rw [hb.cell (p := ⟨b, off + k * 2, none⟩) (Nat.lt_of_lt_of_le (World.block_lt_of_cell? w _ h1) hB)]; exact h1, by rw [hb.cell (p := ⟨b, off + k * 2 + 1, none⟩) (Nat.lt_of_lt_of_le (World.block_lt_of_cell? w _ h2) hB)]; exact h2, h3⟩⟩
theorem Rls.drewN {q : Nat} (h : Rls w a n rs) : Rls (w.drewN q) a n rs := ⟨h.len, h.small, h.cells⟩
theorem Rls.at (h : Rls w a n rs) {k : Nat} (hk : k < n) : ∃ x b off, rs[k]? = some x ∧ a = some ⟨b, off, none⟩ ∧ w.cell? ⟨b, off + k * 2, none⟩ = some (.string (bs x.1)) ∧ w.cell? ⟨b, off + k * 2 + 1, none⟩ = some (.string (bs x.2)) ∧ x.1.length ≤ 4611686018427387903 ∧ x.2.length ≤ 4611686018427387903 := by
  have hx : rs[k]? = some (rs[k]'(by rw [h.len]; exact hk)) := List.getElem?_eq_getElem _
  obtain ⟨b, off, ha, hc⟩ := h.cells k _ hx
  exact ⟨_, b, off, hx, ha, hc⟩
end
theorem badR_take {rs : List Rule} {k : Nat} {x : Rule} (hx : rs[k]? = some x) (h : badR (rs.drop k) = badR rs) : (rightB x = 0 → badR (rs.drop (k + 1)) = badR rs) ∧ (rightB x ≠ 0 → badR rs = rightB x) := by
  have hd : rs.drop k = x :: rs.drop (k + 1) := by
    have hk := (List.getElem?_eq_some_iff.1 hx).1
    rw [List.drop_eq_getElem_cons hk]
    rw [List.getElem?_eq_getElem hk] at hx
    injection hx with hx
    rw [hx]
  rw [hd] at h
  exact ⟨fun h0 => by rw [← h, badR, if_pos h0], fun h0 => by rw [← h, badR, if_neg h0]⟩
end Go.Ap
