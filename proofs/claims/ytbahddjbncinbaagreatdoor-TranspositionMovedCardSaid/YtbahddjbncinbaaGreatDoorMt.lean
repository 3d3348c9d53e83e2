/-
  The three map types of the program, in plain words.
-/
import Derived.Test.YtbahddjbncinbaaGreatDoorMg
import Derived.Test.YtbahddjbncinbaaGreatDoorKi
import Derived.Sort.MapsRangeIn
namespace Go.Proofs.YtbahddjbncinbaaGreatDoor
open Go.RowKit Go.Ap Go.Shelf Go.Proofs Go.Maps
theorem wf_i64 {x : Int} (h : I64 x) : (Lit.int .i64 x).wf = true := by
  have h1 : IntKind.i64.min = -9223372036854775808 := rfl
  have h2 : IntKind.i64.max = 9223372036854775807 := rfl
  simp only [Lit.wf, Bool.and_eq_true, decide_eq_true_eq, h1, h2]
  exact h
theorem keyI_int {P : Program} {k : TypeId} (hk : P.underlying k = some (.int .i64)) {v : Value} {l : Lit} (h : keyOf P k v = some l) : ∃ s : Int, v = .int .i64 s ∧ l = .int .i64 s := by
  obtain ⟨n, rfl, hl, _⟩ := Maps.keyOf_int_inv hk h
  exact ⟨n, rfl, hl⟩
theorem keyI_str {P : Program} {k : TypeId} (hk : P.underlying k = some .string) {v : Value} {l : Lit} (h : keyOf P k v = some l) : ∃ s : Str, v = .string (bs s) ∧ l = .string s := by
  obtain ⟨s, rfl⟩ := Maps.keyOf_string_inv hk h
  refine ⟨s.data.toList, by rw [← bs_of], ?_⟩
  simp [keyOf, mapKey, hk] at h
  exact h.2.symm
def tSI : MapT Tryz.prog 96 9 3 Str Int where
  kl s := .string s
  kv s := .string (bs s)
  dl v := .int .i64 v
  dv v := .int .i64 v
  zero := 0
  fit s := s.length ≤ 4611686018427387903
  fitE v := I64 v
  keyed := Maps.string_keyed Tryz.underlying9
  und := Tryz.underlying96
  inj h := by cases h; rfl
  key {s} h := WideMaps.keyOf_string_mk Tryz.underlying9 (by rw [bs_size]; unfold maxLen; omega)
  keyI h := keyI_str Tryz.underlying9 h
  elem h := plainElem_int Tryz.underlying3 (wf_i64 h)
  elemI h := by obtain ⟨a, h1, h2, _⟩ := plainElem_int_inv Tryz.underlying3 h; exact ⟨a, h1, h2⟩
  dinj h := by cases h; rfl
  zeroV w := Tryz.zeroValue3 w
  zeroF := ⟨by decide, by decide⟩
def tII : MapT Tryz.prog 86 3 3 Int Int where
  kl s := .int .i64 s
  kv s := .int .i64 s
  dl v := .int .i64 v
  dv v := .int .i64 v
  zero := 0
  fit s := I64 s
  fitE v := I64 v
  keyed := Maps.int_keyed Tryz.underlying3
  und := Tryz.underlying86
  inj h := by cases h; rfl
  key h := keyOf_int_mk Tryz.underlying3 (wf_i64 h)
  keyI h := keyI_int Tryz.underlying3 h
  elem h := plainElem_int Tryz.underlying3 (wf_i64 h)
  elemI h := by obtain ⟨a, h1, h2, _⟩ := plainElem_int_inv Tryz.underlying3 h; exact ⟨a, h1, h2⟩
  dinj h := by cases h; rfl
  zeroV w := Tryz.zeroValue3 w
  zeroF := ⟨by decide, by decide⟩
set_option maxRecDepth 100000 in
theorem bool_inv {v : Value} {z : DataW Unit × List MemPlace} (h : plainElem Tryz.prog 4 v = some z) : ∃ y, v = .bool y ∧ z = (.lit (.bool y), []) := by
  unfold plainElem at h
  rw [Tryz.underlying4] at h
  cases v <;> simp at h
  exact ⟨_, rfl, h.symm⟩
def tIB : MapT Tryz.prog 87 3 4 Int Bool where
  kl s := .int .i64 s
  kv s := .int .i64 s
  dl v := .bool v
  dv v := .bool v
  zero := false
  fit s := I64 s
  fitE _ := True
  keyed := Maps.int_keyed Tryz.underlying3
  und := Tryz.underlying87
  inj h := by cases h; rfl
  key h := keyOf_int_mk Tryz.underlying3 (wf_i64 h)
  keyI h := keyI_int Tryz.underlying3 h
  elem _ := plainElem_bool Tryz.underlying4 _
  elemI h := bool_inv h
  dinj h := by cases h; rfl
  zeroV w := Tryz.zeroValue4 w
  zeroF := trivial
end Go.Proofs.YtbahddjbncinbaaGreatDoor
