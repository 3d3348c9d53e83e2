/-
  Critical pairs, in plain words.
-/
import Derived.Test.YtamdonlncfmmmaaOwnS
import Derived.Test.YtamdonlncfmmmaaW6
namespace Go.Ap
open Go Go.RowKit

abbrev Trip := Str × Str × Str
/-- the pair where the last k bytes of x's left side are the first of y's -/
def ovl (x y : Rule) (k : Nat) : Option Trip :=
  if (x.1.drop (x.1.length - k)).isPrefixOf y.1 then some (x.1.take (x.1.length - k) ++ y.1, x.2 ++ y.1.drop k, x.1.take (x.1.length - k) ++ y.2) else none
def ovs (x y : Rule) (n : Nat) : List Trip := (List.range n).filterMap fun t => ovl x y (t + 1)
/-- the pair where y's left side lies in x's -/
def inc (x y : Rule) (i : Nat) : Option Trip :=
  if y.1.isPrefixOf (x.1.drop i) then some (x.1, x.2, x.1.take i ++ (y.2 ++ x.1.drop (i + y.1.length))) else none
def incs (x y : Rule) (same : Bool) (n : Nat) : List Trip := if same then [] else (List.range n).filterMap (inc x y)
def pairL (x y : Rule) (same : Bool) : List Trip := ovs x y (min x.1.length y.1.length - 1) ++ incs x y same x.1.length
def nthR (rs : List Rule) (i : Nat) : Rule := rs.getD i ([], [])
def rowL (rs : List Rule) (i J : Nat) : List Trip := (List.range J).flatMap fun j => pairL (nthR rs i) (nthR rs j) (decide (i = j))
def critU (rs : List Rule) (I : Nat) : List Trip := (List.range I).flatMap fun i => rowL rs i rs.length
def critL (rs : List Rule) : List Trip := critU rs rs.length

section
variable {rs : List Rule} {x y : Rule} {i j k n t : Nat} {same : Bool} {p : List Trip} {z : Trip}
theorem nthR_of (h : rs[i]? = some x) : nthR rs i = x := by simp [nthR, h]
theorem ovs_zero : ovs x y 0 = [] := rfl
theorem ovs_no (h : ovl x y (t + 1) = none) : ovs x y (t + 1) = ovs x y t := by simp [ovs, List.range_succ, h]
theorem ovs_yes (h : ovl x y (t + 1) = some z) : ovs x y (t + 1) = ovs x y t ++ [z] := by simp [ovs, List.range_succ, h]
theorem incs_zero : incs x y same 0 = [] := by simp [incs]
theorem incs_same : incs x y true n = [] := rfl
theorem incs_no (h : inc x y i = none) : incs x y same (i + 1) = incs x y same i := by simp [incs, List.range_succ, h]
theorem incs_yes (h : inc x y i = some z) : incs x y false (i + 1) = incs x y false i ++ [z] := by simp [incs, List.range_succ, h]
theorem rangeN_pre {m n : Nat} (h : m ≤ n) : List.range m <+: List.range n := by
  obtain ⟨d, rfl⟩ := Nat.exists_eq_add_of_le h
  rw [List.range_add]
  exact List.prefix_append _ _
theorem filterMap_pre {α β : Type} {f : α → Option β} {a b : List α} (h : a <+: b) : a.filterMap f <+: b.filterMap f := by
  obtain ⟨c, rfl⟩ := h
  rw [List.filterMap_append]; exact List.prefix_append _ _
theorem flatMap_pre {α β : Type} {f : α → List β} {a b : List α} (h : a <+: b) : a.flatMap f <+: b.flatMap f := by
  obtain ⟨c, rfl⟩ := h
  rw [List.flatMap_append]; exact List.prefix_append _ _
theorem ovs_pre (h : t ≤ min x.1.length y.1.length - 1) : ovs x y t <+: pairL x y same := (filterMap_pre (rangeN_pre h)).trans (List.prefix_append _ _)
theorem incs_pre (h : n ≤ x.1.length) : ovs x y (min x.1.length y.1.length - 1) ++ incs x y same n <+: pairL x y same := by
  unfold pairL
  rw [List.prefix_append_right_inj]
  unfold incs
  split
  · exact List.prefix_refl _
  · exact filterMap_pre (rangeN_pre h)
theorem rowL_zero : rowL rs i 0 = [] := rfl
theorem rowL_succ : rowL rs i (j + 1) = rowL rs i j ++ pairL (nthR rs i) (nthR rs j) (decide (i = j)) := by simp [rowL, List.range_succ]
theorem critU_zero : critU rs 0 = [] := rfl
theorem critU_succ : critU rs (i + 1) = critU rs i ++ rowL rs i rs.length := by simp [critU, List.range_succ]
/-- what came up ahead of the pair (i, j) -/
def headL (rs : List Rule) (i j : Nat) : List Trip := critU rs i ++ rowL rs i j
theorem headL_zero : headL rs i 0 = critU rs i := by simp [headL, rowL_zero]
theorem headL_succ (hx : rs[i]? = some x) (hy : rs[j]? = some y) : headL rs i (j + 1) = headL rs i j ++ pairL x y (decide (i = j)) := by rw [headL, rowL_succ, nthR_of hx, nthR_of hy, headL, List.append_assoc]
theorem headL_row (h : rs.length = n) : headL rs i n = critU rs (i + 1) := by rw [headL, critU_succ, h]
theorem head_pre (hx : rs[i]? = some x) (hy : rs[j]? = some y) (hp : p <+: pairL x y (decide (i = j))) : headL rs i j ++ p <+: critL rs := by
  have hi := (List.getElem?_eq_some_iff.1 hx).1
  have hj := (List.getElem?_eq_some_iff.1 hy).1
  have h1 : headL rs i j ++ p <+: headL rs i (j + 1) := by rw [headL_succ hx hy, List.prefix_append_right_inj]; exact hp
  have h2 : headL rs i (j + 1) <+: critU rs (i + 1) := by
    rw [critU_succ, headL, List.prefix_append_right_inj]; exact flatMap_pre (rangeN_pre hj)
  exact (h1.trans h2).trans (flatMap_pre (rangeN_pre hi))
end

/-- what the iterator over critical pairs asks of its consumer: the blocks below e, the iterator's box, and whatever holds a rule, stay as they are -/
structure KeepC (e b : Nat) (A C : World) : Prop where
  os : C.os = A.os
  tape : C.tape = A.tape
  output : C.output = A.output
  size : A.heap.size ≤ C.heap.size
  block : ∀ k, (k < e ∨ k = b) → C.heap[k]? = A.heap[k]?
  rule : ∀ (k : Nat) (vs : Array Value) (z : Nat × Nat), A.heap[k]? = some (Obj.cells vs 46 z) → C.heap[k]? = some (Obj.cells vs 46 z)
section
variable {e b : Nat} {A C D : World}
theorem KeepC.refl (e b : Nat) (A : World) : KeepC e b A A := ⟨rfl, rfl, rfl, Nat.le_refl _, fun _ _ => rfl, fun _ _ _ h => h⟩
theorem KeepC.trans (h : KeepC e b A C) (k : KeepC e b C D) : KeepC e b A D :=
  ⟨k.os.trans h.os, k.tape.trans h.tape, k.output.trans h.output, Nat.le_trans h.size k.size, fun i hi => (k.block i hi).trans (h.block i hi), fun i vs z hi => k.rule i vs z (h.rule i vs z hi)⟩
theorem KeepC.below (h : KeepC e b A C) : Below e A C := ⟨h.os, h.tape, h.output, h.size, fun k hk => h.block k (.inl hk)⟩
theorem KeepC.cell (h : KeepC e b A C) {k o : Nat} (hb : k < e ∨ k = b) : C.cell? ⟨k, o, none⟩ = A.cell? ⟨k, o, none⟩ := World.cell?_of_block (w := A) (h.block k hb)
/-- a turn of one block that is neither below e nor the box, nor a rule's -/
theorem KeepC.grown {row : Option Nat} (he : e ≤ A.heap.size) (hb : b < A.heap.size) (hg : A.grownBy C row) (hr : ∀ r, row = some r → e ≤ r ∧ r ≠ b ∧ ∀ (vs : Array Value) (z : Nat × Nat), A.heap[r]? ≠ some (Obj.cells vs 46 z)) : KeepC e b A C :=
  ⟨hg.os, hg.tape, hg.output, hg.size, fun k hk => hg.block k (by omega) (fun h => by obtain ⟨h1, h2, _⟩ := hr k h.symm; omega), fun k vs z hk => (hg.block k (Array.getElem?_eq_some_iff.1 hk).1 (fun h => (hr k h.symm).2.2 vs z hk)).trans hk⟩
theorem KeepC.alloc (he : e ≤ A.heap.size) (hb : b < A.heap.size) (o : Obj) : KeepC e b A (A.alloc o) := .grown he hb (World.grownBy_alloc A o none) (fun r h => by cases h)
theorem KeepC.drewN (A : World) (q : Nat) : KeepC e b A (A.drewN q) := ⟨rfl, rfl, rfl, Nat.le_refl _, fun _ _ => rfl, fun _ _ _ h => h⟩
end
/-- the iterator's element: three strings in a block of their own -/
abbrev Elt := Nat × Trip
def eltV (x : Elt) : Value := .slice (some ⟨x.1, 0, none⟩) 3 3
def RdE (e : Nat) (W : World) (x : Elt) : Prop := OwnS W e (eltV x) [x.2.1, x.2.2.1, x.2.2.2]
theorem RdE.new {e : Nat} (W : World) (he : e ≤ W.heap.size) (z : Trip) : RdE e (W.alloc (.cells #[.string (bs z.1), .string (bs z.2.1), .string (bs z.2.2)] 9)) (W.heap.size, z) :=
  OwnS.three W he _ _ _
/-- the place of a rule -/
def RuleAt (W : World) (b : Nat) (x : Rule) : Prop := ∃ z, W.heap[b]? = some (.cells #[.string (bs x.1), .string (bs x.2)] 46 z)
theorem RuleAt.keep {e b : Nat} {A C : World} {k : Nat} {x : Rule} (h : RuleAt A k x) (hk : KeepC e b A C) : RuleAt C k x := by obtain ⟨z, h⟩ := h; exact ⟨z, hk.rule _ _ _ h⟩
theorem RuleAt.new (W : World) (x : Rule) : RuleAt (W.alloc (.cells #[.string (bs x.1), .string (bs x.2)] 46)) W.heap.size x := ⟨_, World.alloc_heap_new W _⟩
theorem RuleAt.cells {W : World} {k : Nat} {x : Rule} (h : RuleAt W k x) : W.cell? ⟨k, 0, none⟩ = some (.string (bs x.1)) ∧ W.cell? ⟨k, 1, none⟩ = some (.string (bs x.2)) := by
  obtain ⟨z, h⟩ := h
  exact ⟨by simp [World.cell?, h], by simp [World.cell?, h]⟩
theorem RuleAt.grown {W W' : World} {k : Nat} {x : Rule} (h : RuleAt W k x) (hg : W.grownBy W' none) : RuleAt W' k x := by
  obtain ⟨z, h⟩ := h
  exact ⟨z, (hg.block k (Array.getElem?_eq_some_iff.1 h).1 (by simp)).trans h⟩
end Go.Ap
