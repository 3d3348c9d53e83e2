import Derived.WalkKit
import Derived.WalkSpells
import Derived.WalkLawsBesides
import Derived.Lib.Hide
import Derived.RangeFuncNested
import Derived.RangeFuncBound
import Derived.RangeFuncCalls
import Derived.RangeFuncLeaves
import Derived.Shelf.Abstract
import Derived.Shelf.RegionOpen
import Derived.OwnWalkIn
import Derived.TacticsInMore
import Derived.LoopNIn
import Derived.LoopIn
import Derived.Deep.QuietTactic
import Derived.BigQuiet
import Derived.Laws.EntriesVeiled
import Derived.RangeFuncBox
import Derived.Maps.AppendAt
import Derived.Lib.ItoaNum
import Derived.Lib.AtoiAll


















namespace Go.Ap
open Go Go.RowKit

/-- the element at a place, under a name that the walk leaves alone -/
def nth (xs : List Int) (k : Nat) : Int := xs.getD k 0
theorem nth_eq {xs : List Int} {k : Nat} (h : k < xs.length) : nth xs k = xs[k] := by simp [nth, h]
theorem nth_mem {xs : List Int} {k : Nat} (h : k < xs.length) : nth xs k ∈ xs := by rw [nth_eq h]; exact List.getElem_mem h

/-- the int fits into 64 bits -/
def I64 (x : Int) : Prop := -9223372036854775808 ≤ x ∧ x ≤ 9223372036854775807

/-- a slice value (its address, its length) reads as a list, each element by a relation on its one cell -/
structure Sl {α : Type} (R : World → Value → α → Prop) (w : World) (a : Option Addr) (n : Nat) (xs : List α) : Prop where
  len : xs.length = n
  small : n ≤ 4611686018427387903
  cells : ∀ (k : Nat) (x : α), xs[k]? = some x → ∃ b off v, a = some ⟨b, off, none⟩ ∧ w.cell? ⟨b, off + k, none⟩ = some v ∧ R w v x

section
variable {α : Type} {R : World → Value → α → Prop} {w w' : World} {a : Option Addr} {n : Nat} {xs : List α}
theorem Sl.nil (w : World) (a : Option Addr) : Sl R w a 0 [] := ⟨rfl, by omega, fun k x h => by simp at h⟩
theorem Sl.zero (h : Sl R w a 0 xs) : xs = [] := List.eq_nil_of_length_eq_zero h.len
theorem Sl.weak {R' : World → Value → α → Prop} (h : Sl R w a n xs) (hR : ∀ v x, x ∈ xs → R w v x → R' w v x) : Sl R' w a n xs :=
  ⟨h.len, h.small, fun k x hk => by
    obtain ⟨b, off, v, ha, hc, hr⟩ := h.cells k x hk
    exact ⟨b, off, v, ha, hc, hR v x (List.mem_of_getElem? hk) hr⟩⟩
theorem Sl.mono {B : Nat} (h : Sl R w a n xs) (hB : w.heap.size ≤ B) (hb : Below B w w') (hR : ∀ v x, R w v x → R w' v x) : Sl R w' a n xs :=
  ⟨h.len, h.small, fun k x hk => by
    obtain ⟨b, off, v, ha, hc, hr⟩ := h.cells k x hk
    refine ⟨b, off, v, ha, ?_, hR v x hr⟩
    rw [hb.cell (p := ⟨b, off + k, none⟩) (Nat.lt_of_lt_of_le (World.block_lt_of_cell? w _ hc) hB)]
    exact hc⟩
theorem Sl.at (h : Sl R w a n xs) {k : Nat} (hk : k < n) : ∃ x b off v, xs[k]? = some x ∧ a = some ⟨b, off, none⟩ ∧ w.cell? ⟨b, off + k, none⟩ = some v ∧ R w v x := by
  have hx : xs[k]? = some (xs[k]'(by rw [h.len]; exact hk)) := List.getElem?_eq_getElem _
  obtain ⟨b, off, v, ha, hc, hr⟩ := h.cells k _ hx
  exact ⟨_, b, off, v, hx, ha, hc, hr⟩
end

/-- a slice of ints -/
def IntR (_ : World) (v : Value) (x : Int) : Prop := v = .int .i64 x ∧ I64 x
abbrev Ints := Sl IntR

theorem IntR.mono {w w' : World} {v : Value} {x : Int} (h : IntR w v x) : IntR w' v x := h

theorem Ints.mono {w w' : World} {B : Nat} {a : Option Addr} {n : Nat} {xs : List Int} (h : Ints w a n xs) (hB : w.heap.size ≤ B) (hb : Below B w w') : Ints w' a n xs :=
  Sl.mono h hB hb (fun _ _ => IntR.mono)
theorem Ints.drewN {w : World} {q : Nat} {a : Option Addr} {n : Nat} {xs : List Int} (h : Ints w a n xs) : Ints (w.drewN q) a n xs :=
  ⟨h.len, h.small, h.cells⟩
theorem Ints.at {w : World} {a : Option Addr} {n : Nat} {xs : List Int} (h : Ints w a n xs) (hk : 0 < n) :
    ∃ b off, a = some ⟨b, off, none⟩ ∧ ∀ j, j < n → w.cell? ⟨b, off + j, none⟩ = some (.int .i64 (nth xs j)) := by
  obtain ⟨x, b, off, v, _, ha, _, _⟩ := Sl.at h hk
  refine ⟨b, off, ha, fun j hj => ?_⟩
  obtain ⟨y, b', off', v', hy, ha', hc, rfl, _⟩ := Sl.at h hj
  rw [ha] at ha'
  cases ha'
  rw [hc]
  simp [nth, hy]
theorem Ints.wf {w : World} {a : Option Addr} {n : Nat} {xs : List Int} (h : Ints w a n xs) : ∀ x ∈ xs, I64 x := by
  intro x hx
  obtain ⟨k, hk⟩ := List.getElem?_of_mem hx
  obtain ⟨_, _, _, _, _, _, hr⟩ := h.cells k x hk
  exact hr
theorem Ints.i64 {w : World} {a : Option Addr} {n : Nat} {xs : List Int} (h : Ints w a n xs) (k : Nat) : I64 (nth xs k) := by
  by_cases hk : k < xs.length
  · exact Ints.wf h _ (nth_mem hk)
  · unfold nth
    rw [List.getD_eq_getElem?_getD, List.getElem?_eq_none (by omega)]; exact ⟨by decide, by decide⟩

/-- a slice of slices of ints -/
def RowR (w : World) (v : Value) (xs : List Int) : Prop := ∃ a n c, v = .slice a n c ∧ Ints w a n xs
abbrev Rows2 := Sl RowR
theorem RowR.mono {w w' : World} {B : Nat} {v : Value} {xs : List Int} (h : RowR w v xs) (hB : w.heap.size ≤ B) (hb : Below B w w') : RowR w' v xs := by
  obtain ⟨a, n, c, rfl, h⟩ := h
  exact ⟨a, n, c, rfl, Ints.mono h hB hb⟩
theorem Rows2.mono {w w' : World} {B : Nat} {a : Option Addr} {n : Nat} {xs : List (List Int)} (h : Rows2 w a n xs) (hB : w.heap.size ≤ B) (hb : Below B w w') : Rows2 w' a n xs :=
  Sl.mono h hB hb (fun _ _ hr => RowR.mono hr hB hb)
theorem RowR.drewN {w : World} {q : Nat} {v : Value} {xs : List Int} (h : RowR w v xs) : RowR (w.drewN q) v xs := by
  obtain ⟨a, n, c, rfl, h⟩ := h
  exact ⟨a, n, c, rfl, Ints.drewN h⟩
theorem Rows2.drewN {w : World} {q : Nat} {a : Option Addr} {n : Nat} {xs : List (List Int)} (h : Rows2 w a n xs) : Rows2 (w.drewN q) a n xs :=
  ⟨h.len, h.small, fun k x hk => by
    obtain ⟨b, off, v, ha, hc, hr⟩ := h.cells k x hk
    exact ⟨b, off, v, ha, hc, hr.drewN⟩⟩

theorem ret_i {k : IntKind} {x y : Int} (h : x = y) : Ending.returned (.int k x) = .returned (.int k y) := by rw [h]
theorem ret_b {x y : Bool} (h : x = y) : Ending.returned (.bool x) = .returned (.bool y) := by rw [h]
theorem drewN2 (w : World) (p q : Nat) : (w.drewN p).drewN q = w.drewN (p + q) := by simp [World.drewN, Nat.add_assoc]
theorem drewN_ex (w : World) (p q : Nat) : ∃ r, (w.drewN p).drewN q = w.drewN r := ⟨_, drewN2 w p q⟩

/-- the first place from k on at which a test says yes, as the library's IndexFunc gives it -/
def idxG (p : Nat → Bool) : Nat → Nat → Int
  | 0, _ => -1
  | f + 1, k => if p k = true then (k : Int) else idxG p f (k + 1)
def pAt {α : Type} (p : α → Bool) (xs : List α) (k : Nat) : Bool := (xs[k]?).elim false p
def idxF {α : Type} (p : α → Bool) (xs : List α) : Int := idxG (pAt p xs) xs.length 0
theorem idxG_nonneg (p : Nat → Bool) : ∀ f k, decide (0 ≤ idxG p f k) = (List.range' k f).any p
  | 0, k => by simp [idxG]
  | f + 1, k => by
    rw [idxG, List.range'_succ, List.any_cons]
    by_cases h : p k = true
    · rw [if_pos h, h]; simp
    · rw [if_neg h, idxG_nonneg p f (k + 1)]
      simp at h
      rw [h, Bool.false_or]
theorem any_pAt {α : Type} (p : α → Bool) : ∀ (xs ys : List α), (List.range' xs.length ys.length).any (pAt p (xs ++ ys)) = ys.any p
  | xs, [] => by simp
  | xs, y :: ys => by
    have ih := any_pAt p (xs ++ [y]) ys
    rw [List.length_cons, List.range'_succ, List.any_cons, List.any_cons]
    simp only [List.append_assoc, List.singleton_append, List.length_append, List.length_singleton] at ih
    rw [ih]
    simp [pAt]
theorem idxF_any {α : Type} (p : α → Bool) (xs : List α) : decide (0 ≤ idxF p xs) = xs.any p := by
  unfold idxF
  rw [idxG_nonneg]
  exact any_pAt p [] xs
theorem idxG_yes {p : Nat → Bool} {f k : Nat} (h : p k = true) : idxG p (f + 1) k = k := by rw [idxG, if_pos h]
theorem idxG_no {p : Nat → Bool} {f k : Nat} (h : p k = false) : idxG p (f + 1) k = idxG p f (k + 1) := by rw [idxG, if_neg (by simp [h])]
/-- a function value of one int that answers a bool, in whatever world has come of w by growth alone -/
structure Fn1 (P : Program) (g : Nat) (cap : Array Value) (p : Int → Bool) (w : World) : Prop where
  enters : ∀ args w, (callFunc g args).run P w = .ok (.enter g args) w
  calls : ∀ w', Below w.heap.size w w' → ∀ k, I64 k → Calls P g (#[.int .i64 k] ++ cap) w' fun e w'' => e = .returned (.bool (p k)) ∧ ∃ q, w'' = w'.drewN q
theorem Fn1.later {P : Program} {g : Nat} {cap : Array Value} {p : Int → Bool} {w w' : World} (h : Fn1 P g cap p w) (hb : Below w.heap.size w w') : Fn1 P g cap p w' :=
  ⟨h.enters, fun w'' h'' k hk => h.calls w'' (hb.trans (h''.mono hb.size)) k hk⟩

/-- a set: ascending, from 0 to 63 -/
def SetL (xs : List Int) : Prop := xs.Pairwise (· < ·) ∧ ∀ x ∈ xs, 0 ≤ x ∧ x ≤ 63
theorem SetL.le {xs : List Int} (h : SetL xs) : xs.Pairwise (· ≤ ·) := h.1.imp (fun h => Int.le_of_lt h)

theorem cell_fresh {w : World} {b i : Nat} {c : Array Value} {t : TypeId} {v : Value} (h : b = w.heap.size) (hc : c[i]? = some v) : (w.alloc (.cells c t)).cell? ⟨b, i, none⟩ = some v := by
  subst h; rw [World.cell?_alloc_new]; exact hc
theorem bstep {w w1 w2 : World} (h : Below w.heap.size w w1) (k : Below w1.heap.size w1 w2) : Below w.heap.size w w2 := h.trans (k.mono h.size)
theorem bdrewN (w : World) (q : Nat) : Below w.heap.size w (w.drewN q) := ⟨rfl, rfl, rfl, Nat.le_refl _, fun _ _ => rfl⟩

theorem heap_fresh {w : World} {o : Obj} {b : Nat} (h : b = w.heap.size) : (w.alloc o).heap[b]? = some o := by
  subst h; exact World.alloc_heap_new w o
/-- values that read as lists, one by one -/
def AllR (w : World) : List Value → List (List Int) → Prop
  | [], [] => True
  | v :: vs, x :: xs => RowR w v x ∧ AllR w vs xs
  | _, _ => False
theorem AllR.at {w : World} : ∀ {vs : List Value} {xss : List (List Int)}, AllR w vs xss → ∀ (k : Nat) (xs : List Int), xss[k]? = some xs → ∃ v, vs[k]? = some v ∧ RowR w v xs
  | [], [], _, k, xs, h => by simp at h
  | v :: vs, x :: xss, ⟨h1, h2⟩, 0, xs, h => by simp at h; subst h; exact ⟨v, rfl, h1⟩
  | v :: vs, x :: xss, ⟨h1, h2⟩, k + 1, xs, h => by simp at h; obtain ⟨v', hv, hr⟩ := h2.at k xs h; exact ⟨v', by simpa using hv, hr⟩
theorem balloc (w : World) (o : Obj) : Below w.heap.size w (w.alloc o) := (Below.refl _ w).alloc (Nat.le_refl _) _

/-- what the call owns reads as a list -/
theorem ints_of_owns {w : World} {base : Nat} {e : TypeId} {v : Value} {n : Nat} {xs : List Int} (h : w.ownsRow base e 1 v n (xs.map (Value.int .i64))) (hx : ∀ x ∈ xs, I64 x) (hn : n ≤ 4611686018427387903) :
    ∃ a c, v = .slice a n c ∧ Ints w a n xs := by
  have hl : xs.length = n := by have := h.1; simpa using this
  rcases h.2 with ⟨rfl, rfl⟩ | ⟨g, cap, cur, rfl, _, _, _, _, _, _⟩
  · have : xs = [] := List.eq_nil_of_length_eq_zero hl
    subst this
    exact ⟨none, 0, rfl, Sl.nil _ _⟩
  · refine ⟨_, cap, rfl, hl, hn, fun k x hk => ?_⟩
    have hc := h.cells (g := g) rfl k (.int .i64 x) (by simp [hk])
    have hadd : (⟨g, 0, none⟩ : Addr).add k = ⟨g, 0 + k, none⟩ := by unfold Addr.add; split <;> simp_all
    rw [hadd] at hc
    exact ⟨g, 0, _, rfl, hc, rfl, hx x (List.mem_of_getElem? hk)⟩

end Go.Ap


namespace Go.Ap

def punctL : List Int := [46, 44, 59, 58, 33, 63, 40, 41, 45]
/-- the kind of a character -/
def kindOf (c : Int) : Int :=
  if (97 ≤ c ∧ c ≤ 122) ∨ (65 ≤ c ∧ c ≤ 90) then 1
  else if c = 94 ∨ c = 126 ∨ c = 37 then 2
  else if 48 ≤ c ∧ c ≤ 57 then 3
  else if c = 39 then 4
  else if c = 32 then 6
  else if c ∈ punctL then 5
  else 0

theorem kind_cases (c : Int) : (97 ≤ c ∧ c ≤ 122) ∨ (65 ≤ c ∧ c ≤ 90) ∨ (48 ≤ c ∧ c ≤ 57) ∨ c = 94 ∨ c = 126 ∨ c = 37 ∨ c = 39 ∨ c = 32 ∨ c ∈ punctL ∨
    ((123 ≤ c ∨ (91 ≤ c ∧ c ≤ 96) ∨ (58 ≤ c ∧ c ≤ 64) ∨ c < 48) ∧ c ≠ 94 ∧ c ≠ 126 ∧ c ≠ 37 ∧ c ≠ 39 ∧ c ≠ 32 ∧ c ∉ punctL) := by
  by_cases h : c ∈ punctL
  · simp [h]
  · simp only [h, false_or, not_false_eq_true, and_true]; omega
theorem kind_bound (c : Int) : 0 ≤ kindOf c ∧ kindOf c ≤ 6 := by
  unfold kindOf
  repeat' split
  all_goals omega
end Go.Ap




namespace Go.Ap
open Go Go.RowKit

/-- the string that has these bytes -/
def bs (l : List UInt8) : ByteArray := ⟨l.toArray⟩
section
variable {l m : List UInt8}
theorem bs_size : (bs l).size = l.length := by simp [bs, ByteArray.size]
theorem bs_list : (bs l).data.toList = l := rfl
theorem bs_inj : bs l = bs m ↔ l = m := ⟨fun h => by have := congrArg (fun s => s.data.toList) h; simpa [bs] using this, fun h => by rw [h]⟩
theorem bs_append : bs l ++ bs m = bs (l ++ m) := by
  apply ByteArray.ext
  apply Array.toList_inj.1
  rw [ByteArray.data_append]
  simp [bs]
theorem bs_extract (a b : Nat) : (bs l).extract a b = bs ((l.drop a).take (b - a)) := by
  apply ByteArray.ext
  apply Array.toList_inj.1
  rw [ByteArray.data_extract]
  simp [bs]
end

theorem bs_toList (l : List UInt8) : (bs l).toList = l := by rw [ByteArray.toList_eq]; rfl
theorem empty_toList : ({ data := #[] } : ByteArray).toList = [] := by rw [ByteArray.toList_eq]
/-- a character of a word -/
def wch (c : UInt8) : Bool := decide (1 ≤ kindOf (c.toNat : Int) ∧ kindOf (c.toNat : Int) ≤ 4)
def wordB (l : List UInt8) : Bool := l.all wch

abbrev Str := List UInt8
section
variable {w w' : World} {base base' : Nat} {e e' : TypeId} {size size' : Nat} {v v' : Value} {n n' : Nat} {xs xs' : List Value}
theorem owns_below (h : w.ownsRow base e size v n xs) (hb : Below w.heap.size w w') : w'.ownsRow base e size v n xs := by
  refine ⟨h.1, ?_⟩
  rcases h.2 with hn | ⟨g, cap, cur, rfl, hbb, hgg, rest⟩
  · exact .inl hn
  · exact .inr ⟨g, cap, cur, rfl, hbb, (hb.block g (Array.getElem?_eq_some_iff.1 hgg).1).trans hgg, rest⟩
theorem owns_mono (h : w.ownsRow base e size v n xs) (hb : base' ≤ base) : w.ownsRow base' e size v n xs := by
  refine ⟨h.1, ?_⟩
  rcases h.2 with hn | ⟨g, cap, cur, rfl, hbb, hgg, rest⟩
  · exact .inl hn
  · exact .inr ⟨g, cap, cur, rfl, by omega, hgg, rest⟩
theorem owns_apart (h : w.ownsRow base e size v n xs) (h' : w.ownsRow base' e' size' v' n' xs') (hne : e ≠ e') : v.ownBlock = none ∨ v.ownBlock ≠ v'.ownBlock := by
  rcases h.2 with ⟨rfl, _⟩ | ⟨g, cap, cur, rfl, _, hg, _⟩
  · exact .inl rfl
  · rcases h'.2 with ⟨rfl, _⟩ | ⟨g', cap', cur', rfl, _, hg', _⟩
    · exact .inr (by simp [Value.ownBlock])
    · refine .inr fun he => hne ?_
      obtain rfl : g = g' := by simpa [Value.ownBlock] using he
      rw [hg] at hg'
      simp at hg'
      exact hg'.2
theorem owns_lt (h : w.ownsRow base e size v n xs) : ∀ k, v.ownBlock = some k → k < w.heap.size := fun k hk => (h.lt k hk).2
end

/-- the value of a string -/
def sv (x : Str) : Value := .string (bs x)
/-- a slice of strings -/
def StrR (_ : World) (v : Value) (x : Str) : Prop := v = sv x
abbrev StrsL := Sl StrR
theorem StrsL.mono {w w' : World} {B : Nat} {a : Option Addr} {n : Nat} {xs : List Str} (h : StrsL w a n xs) (hB : w.heap.size ≤ B) (hb : Below B w w') : StrsL w' a n xs := Sl.mono h hB hb (fun _ _ h => h)
theorem StrsL.drewN {w : World} {q : Nat} {a : Option Addr} {n : Nat} {xs : List Str} (h : StrsL w a n xs) : StrsL (w.drewN q) a n xs := ⟨h.len, h.small, h.cells⟩
theorem StrsL.at {w : World} {a : Option Addr} {n : Nat} {xs : List Str} (h : StrsL w a n xs) (hk : 0 < n) : ∃ b off, a = some ⟨b, off, none⟩ ∧ ∀ j x, xs[j]? = some x → w.cell? ⟨b, off + j, none⟩ = some (.string (bs x)) := by
  obtain ⟨x, b, off, v, _, ha, _, _⟩ := Sl.at h hk
  refine ⟨b, off, ha, fun j x hj => ?_⟩
  obtain ⟨b', off', v', ha', hc, rfl⟩ := h.cells j x hj
  rw [ha] at ha'
  cases ha'
  exact hc

/-- a slice of strings of the call's own -/
def OwnS (w : World) (base : Nat) (v : Value) (xs : List Str) : Prop := w.ownsRow base 9 1 v xs.length (xs.map sv)
section
variable {w w' w1 : World} {base base' : Nat} {v u v' : Value} {xs : List Str}
theorem OwnS.below (h : OwnS w base v xs) (hb : Below w.heap.size w w') : OwnS w' base v xs := owns_below h hb
theorem OwnS.mono (h : OwnS w base v xs) (hb : base' ≤ base) : OwnS w base' v xs := owns_mono h hb
theorem OwnS.nil (w : World) (base : Nat) : OwnS w base (.slice none 0 0) [] := World.ownsRow_nil _ _ _ _
theorem OwnS.empty (w : World) {base : Nat} (hw : base ≤ w.heap.size) : OwnS (w.alloc (.cells #[] 9)) base (.slice (some ⟨w.heap.size, 0, none⟩) 0 0) [] :=
  World.ownsRow_made w #[] 0 hw (by simp [maxLen]) rfl
theorem OwnS.one (w : World) {base : Nat} (hw : base ≤ w.heap.size) (x : Str) : OwnS (w.alloc (.cells #[.string (bs x)] 9)) base (.slice (some ⟨w.heap.size, 0, none⟩) 1 1) [x] :=
  ⟨rfl, .inr ⟨w.heap.size, 1, #[.string (bs x)], rfl, hw, World.alloc_heap_new w _, by simp, by simp [maxLen], rfl, by simp [sv]⟩⟩
theorem OwnS.three (w : World) {base : Nat} (hw : base ≤ w.heap.size) (x y z : Str) : OwnS (w.alloc (.cells #[.string (bs x), .string (bs y), .string (bs z)] 9)) base (.slice (some ⟨w.heap.size, 0, none⟩) 3 3) [x, y, z] :=
  ⟨rfl, .inr ⟨w.heap.size, 3, #[.string (bs x), .string (bs y), .string (bs z)], rfl, hw, World.alloc_heap_new w _, by simp, by simp [maxLen], rfl, by simp [sv]⟩⟩
theorem OwnS.pushed {x : Str} {tmp : Obj} (h : OwnS w base v xs) (hb : base ≤ w.heap.size) (hown : w1.ownsRow base 9 1 v' (xs.length + 1) (xs.map sv ++ [.string (bs x)])) (hg : (w.alloc tmp).grownBy w1 v.ownBlock) :
    OwnS w1 base v' (xs ++ [x]) ∧ Below base w w1 :=
  ⟨by unfold OwnS; simpa [sv] using hown, ((Below.refl base w).alloc hb tmp).grown hg (by simp; omega) (fun k hk => (h.lt k hk).1)⟩
theorem OwnS.strs (h : OwnS w base v xs) (hn : xs.length ≤ 4611686018427387903) : ∃ a c, v = .slice a xs.length c ∧ StrsL w a xs.length xs := by
  rcases h.2 with ⟨rfl, h0⟩ | ⟨g, cap, _, rfl, hb, _⟩
  · have : xs = [] := List.eq_nil_of_length_eq_zero h0
    subst this
    exact ⟨none, 0, rfl, Sl.nil _ _⟩
  · refine ⟨_, cap, rfl, rfl, hn, fun k x hk => ?_⟩
    have hc := World.ownsRow.cells h (g := g) rfl k (sv x) (by simp [hk])
    have hadd : (⟨g, 0, none⟩ : Addr).add k = ⟨g, 0 + k, none⟩ := by unfold Addr.add; split <;> simp_all
    rw [hadd] at hc
    exact ⟨g, 0, _, rfl, hc, rfl⟩
end
end Go.Ap


namespace Go.Ap
open Go Go.RowKit

/-- a token -/
structure Tok where
  text : Str
  norm : Str
  page : Str
  line : Int
  flags : Int
  name : Str
/-- a collation -/
structure Coll where
  sec : Str
  sigla : List Str
  tokens : List (List Tok)
  columns : List (List Int)
/-- a reading: its words, its sources -/
abbrev Rdg := List Str × List Int
/-- a place of variation -/
structure Plc where
  lo : Int
  hi : Int
  rds : List Rdg

/-- a slice value (its address, its length) reads as a list, each element by a relation on m cells -/
structure SlM {α : Type} (m : Nat) (R : World → Nat → Nat → α → Prop) (w : World) (a : Option Addr) (n : Nat) (xs : List α) : Prop where
  len : xs.length = n
  small : n ≤ 4611686018427387903
  cells : ∀ (k : Nat) (x : α), xs[k]? = some x → ∃ b off, a = some ⟨b, off, none⟩ ∧ R w b (off + k * m) x
section
variable {α : Type} {m : Nat} {R : World → Nat → Nat → α → Prop} {w w' : World} {a : Option Addr} {n : Nat} {xs : List α}
theorem SlM.nil (w : World) (a : Option Addr) : SlM m R w a 0 [] := ⟨rfl, by omega, fun k x h => by simp at h⟩
theorem SlM.mono (h : SlM m R w a n xs) (hR : ∀ b o x, R w b o x → R w' b o x) : SlM m R w' a n xs :=
  ⟨h.len, h.small, fun k x hk => by obtain ⟨b, off, ha, hr⟩ := h.cells k x hk; exact ⟨b, off, ha, hR _ _ _ hr⟩⟩
theorem SlM.at (h : SlM m R w a n xs) {k : Nat} (hk : k < n) : ∃ x b off, xs[k]? = some x ∧ a = some ⟨b, off, none⟩ ∧ R w b (off + k * m) x := by
  have hx : xs[k]? = some (xs[k]'(by rw [h.len]; exact hk)) := List.getElem?_eq_getElem _
  obtain ⟨b, off, ha, hr⟩ := h.cells k _ hx
  exact ⟨_, b, off, hx, ha, hr⟩
end
theorem cell_kept {w w' : World} {p : Addr} {v : Value} {B : Nat} (hB : w.heap.size ≤ B) (hb : Below B w w') (h : w.cell? p = some v) : w'.cell? p = some v :=
  (hb.cell (Nat.lt_of_lt_of_le (World.block_lt_of_cell? w p h) hB)).trans h

/-- six cells that read as a token -/
structure TokR (w : World) (b o : Nat) (t : Tok) : Prop where
  c0 : w.cell? ⟨b, o, none⟩ = some (.string (bs t.text))
  c1 : w.cell? ⟨b, o + 1, none⟩ = some (.string (bs t.norm))
  c2 : w.cell? ⟨b, o + 2, none⟩ = some (.string (bs t.page))
  c3 : w.cell? ⟨b, o + 3, none⟩ = some (.int .i64 t.line)
  c4 : w.cell? ⟨b, o + 4, none⟩ = some (.int .i64 t.flags)
  c5 : w.cell? ⟨b, o + 5, none⟩ = some (.string (bs t.name))
/-- a token's strings and numbers are a machine's -/
structure TokS (t : Tok) : Prop where
  text : t.text.length ≤ 281474976710656
  norm : t.norm.length ≤ 4611686018427387903
  page : t.page.length ≤ 4611686018427387903
  line : I64 t.line
  flags : I64 t.flags
  name : t.name.length ≤ 4611686018427387903
def TokM (w : World) (b o : Nat) (t : Tok) : Prop := TokR w b o t ∧ TokS t
abbrev Toks := SlM 6 TokM
def ToksV (w : World) (v : Value) (l : List Tok) : Prop := ∃ a n c, v = .slice a n c ∧ Toks w a n l
abbrev Toks2 := Sl ToksV
section
variable {w w' : World} {B : Nat} {a : Option Addr} {n : Nat}
theorem TokM.mono {b o : Nat} {t : Tok} (h : TokM w b o t) (hB : w.heap.size ≤ B) (hb : Below B w w') : TokM w' b o t :=
  ⟨⟨cell_kept hB hb h.1.c0, cell_kept hB hb h.1.c1, cell_kept hB hb h.1.c2, cell_kept hB hb h.1.c3, cell_kept hB hb h.1.c4, cell_kept hB hb h.1.c5⟩, h.2⟩
theorem Toks.mono {l : List Tok} (h : Toks w a n l) (hB : w.heap.size ≤ B) (hb : Below B w w') : Toks w' a n l := SlM.mono h fun _ _ _ hr => hr.mono hB hb
theorem ToksV.mono {v : Value} {l : List Tok} (h : ToksV w v l) (hB : w.heap.size ≤ B) (hb : Below B w w') : ToksV w' v l := by
  obtain ⟨a, n, c, rfl, h⟩ := h; exact ⟨a, n, c, rfl, Toks.mono h hB hb⟩
theorem Toks2.mono {l : List (List Tok)} (h : Toks2 w a n l) (hB : w.heap.size ≤ B) (hb : Below B w w') : Toks2 w' a n l := Sl.mono h hB hb fun _ _ hr => hr.mono hB hb
end
/-- two cells that read as a reading -/
def RdgM (w : World) (b o : Nat) (r : Rdg) : Prop := ∃ a1 n1 k1 a2 n2 k2, w.cell? ⟨b, o, none⟩ = some (.slice a1 n1 k1) ∧ StrsL w a1 n1 r.1 ∧ w.cell? ⟨b, o + 1, none⟩ = some (.slice a2 n2 k2) ∧ Ints w a2 n2 r.2
abbrev Rdgs := SlM 2 RdgM
/-- three cells that read as a place -/
def PlcM (w : World) (b o : Nat) (u : Plc) : Prop := ∃ a n k, w.cell? ⟨b, o, none⟩ = some (.int .i64 u.lo) ∧ w.cell? ⟨b, o + 1, none⟩ = some (.int .i64 u.hi) ∧ w.cell? ⟨b, o + 2, none⟩ = some (.slice a n k) ∧ Rdgs w a n u.rds ∧ I64 u.lo ∧ I64 u.hi ∧ n ≤ k
abbrev Plcs := SlM 3 PlcM
section
variable {w w' : World} {B : Nat} {a : Option Addr} {n : Nat}
theorem RdgM.mono {b o : Nat} {r : Rdg} (h : RdgM w b o r) (hB : w.heap.size ≤ B) (hb : Below B w w') : RdgM w' b o r := by
  obtain ⟨a1, n1, k1, a2, n2, k2, h1, h2, h3, h4⟩ := h
  exact ⟨a1, n1, k1, a2, n2, k2, cell_kept hB hb h1, h2.mono hB hb, cell_kept hB hb h3, h4.mono hB hb⟩
theorem Rdgs.mono {l : List Rdg} (h : Rdgs w a n l) (hB : w.heap.size ≤ B) (hb : Below B w w') : Rdgs w' a n l := SlM.mono h fun _ _ _ hr => hr.mono hB hb
theorem PlcM.mono {b o : Nat} {u : Plc} (h : PlcM w b o u) (hB : w.heap.size ≤ B) (hb : Below B w w') : PlcM w' b o u := by
  obtain ⟨a, n, k, h1, h2, h3, h4, h5⟩ := h
  exact ⟨a, n, k, cell_kept hB hb h1, cell_kept hB hb h2, cell_kept hB hb h3, Rdgs.mono h4 hB hb, h5⟩
theorem Plcs.mono {l : List Plc} (h : Plcs w a n l) (hB : w.heap.size ≤ B) (hb : Below B w w') : Plcs w' a n l := SlM.mono h fun _ _ _ hr => hr.mono hB hb
end
/-- a collation by value: the four cells -/
structure CollM (w : World) (a1 a2 a3 : Option Addr) (n1 n2 n3 : Nat) (x : Coll) : Prop where
  sec : x.sec.length ≤ 4611686018427387903
  sigla : StrsL w a1 n1 x.sigla
  ssig : ∀ s ∈ x.sigla, s.length ≤ 4611686018427387903
  tokens : Toks2 w a2 n2 x.tokens
  columns : Rows2 w a3 n3 x.columns
theorem CollM.mono {w w' : World} {B : Nat} {a1 a2 a3 : Option Addr} {n1 n2 n3 : Nat} {x : Coll} (h : CollM w a1 a2 a3 n1 n2 n3 x) (hB : w.heap.size ≤ B) (hb : Below B w w') : CollM w' a1 a2 a3 n1 n2 n3 x :=
  ⟨h.sec, h.sigla.mono hB hb, h.ssig, Toks2.mono h.tokens hB hb, Rows2.mono h.columns hB hb⟩
end Go.Ap


namespace Go.Ap
open Go Go.RowKit

/-- block B holds just these ints -/
def Arr (W : World) (B : Nat) (T : TypeId) (xs : List Int) : Prop := W.heap[B]? = some (.cells (xs.map (Value.int .i64)).toArray T (0, 0))

section
variable {W W' : World} {B : Nat} {T : TypeId} {xs : List Int}
theorem Arr.lt (h : Arr W B T xs) : B < W.heap.size := (Array.getElem?_eq_some_iff.1 h).1
theorem Arr.cell (h : Arr W B T xs) {k : Nat} (hk : k < xs.length) : W.cell? ⟨B, k, none⟩ = some (.int .i64 (nth xs k)) := by
  simp [World.cell?, show W.heap[B]? = _ from h, hk, nth_eq hk]
theorem Arr.free (h : Arr W B T xs) (k : Nat) : W.frozen? ⟨B, k, none⟩ = false := by simp [World.frozen?, show W.heap[B]? = _ from h]
theorem Arr.set (h : Arr W B T xs) (k : Nat) (v : Int) : Arr (W.setCell ⟨B, k, none⟩ (.int .i64 v)) B T (xs.set k v) := by
  obtain ⟨hlt, hk⟩ := Array.getElem?_eq_some_iff.1 h
  show (W.heap.modify B _)[B]? = _
  rw [Array.getElem?_eq_getElem (by rw [Array.size_modify]; exact hlt), Array.getElem_modify_self, hk]
  simp [List.map_set]
theorem Arr.kept (h : Arr W B T xs) (hb : Below W.heap.size W W') : Arr W' B T xs := (hb.block B h.lt).trans h
end

theorem nth_set {xs : List Int} {k j : Nat} {v : Int} (hk : k < xs.length) : nth (xs.set k v) j = if j = k then v else nth xs j := by
  unfold nth
  rw [List.getD_eq_getElem?_getD, List.getD_eq_getElem?_getD, List.getElem?_set]
  by_cases h : k = j
  · subst h; simp [hk]
  · rw [if_neg h, if_neg (Ne.symm h)]

theorem made_ints (n : Nat) : madeCells #[Value.int .i64 0] n = ((List.replicate n (0 : Int)).map (Value.int .i64)).toArray := by
  apply Array.ext_getElem?
  intro i
  simp [madeCells, Nat.mod_one]
  by_cases h : i < n
  · simp [h]
  · simp [h]
end Go.Ap


namespace Go.Ap

def wk (c : UInt8) : Int := kindOf (c.toNat : Int)
theorem wk_rng (c : UInt8) : 0 ≤ wk c ∧ wk c ≤ 6 := kind_bound _
/-- each character is one of the alphabet, each mark follows a letter, or a mark that does; a: a mark may stand first -/
def marksB : Bool → Str → Bool
  | _, [] => true
  | a, c :: s => decide (wk c ≠ 0) && (decide (wk c ≠ 2) || a) && marksB (decide (wk c = 1) || (decide (wk c = 2) && a)) s
def chkS (s : Str) : Int := if 65536 < s.length then 4 else if marksB false s = true then 0 else 11
def letB (c : UInt8) : Bool := decide (wk c = 1) || decide (wk c = 3)
def lettersN (s : Str) : Nat := s.countP letB
def isWordB (s : Str) : Bool := decide (s ≠ []) && decide (s.length ≤ 64) && marksB false s && (match s with | [] => false | c :: _ => letB c) && s.all fun c => decide (wk c ≤ 4)
def nameB (s : Str) : Bool := decide (s ≠ []) && decide (s.length ≤ 16) && s.all letB
def namedB (s : Str) : Bool := decide (s = []) || nameB s
/-- a decimal numeral below 100 -/
def dig2 (n : Nat) : Str := if n < 10 then [UInt8.ofNat (48 + n)] else [UInt8.ofNat (48 + n / 10), UInt8.ofNat (48 + n % 10)]
def gapS (n : Nat) : Str := 91 :: (dig2 n ++ [93])
def gapB (s : Str) : Bool := (List.range 64).any fun n => decide (s = gapS (n + 1))
def markB (s : Str) : Bool := match s with | [c] => decide (wk c = 5) || decide (wk c = 4) | _ => false
def normB (s : Str) : Bool := decide (s ≠ []) && decide (s.length ≤ 64) && wordB s
def isGap (f : Int) : Bool := decide (f / 2 % 2 = 1)
def isMark (f : Int) : Bool := decide (f / 8 % 2 = 1)
def formB (t : Tok) : Bool := if isMark t.flags then markB t.text else if isGap t.flags then gapB t.text else isWordB t.text
/-- why a token is not valid -/
def tokC (t : Tok) : Int :=
  if t.flags < 0 ∨ 31 < t.flags then 2
  else if isGap t.flags && isMark t.flags then 8
  else if formB t = false then 11
  else if isGap t.flags = false ∧ isMark t.flags = false ∧ normB t.norm = false then 11
  else if (isGap t.flags = true ∨ isMark t.flags = true) ∧ t.norm ≠ t.text then 11
  else if t.line < 0 then 2
  else if namedB t.page = false ∨ namedB t.name = false then 14
  else 0
theorem name_word {s : Str} (h : s.all letB = true) (a : Bool) : marksB a s = true := by
  induction s generalizing a with
  | nil => rfl
  | cons c s ih =>
    rw [List.all_cons, Bool.and_eq_true] at h
    have hc := h.1
    unfold letB at hc
    simp only [Bool.or_eq_true, decide_eq_true_eq] at hc
    rw [marksB, ih h.2]
    have h0 : wk c ≠ 0 := by omega
    have h2 : wk c ≠ 2 := by omega
    simp [h0, h2]
/-- a name as the reference says it -/
theorem name_ref (s : Str) : nameB s = (decide (s.length ≤ 16) && isWordB s && s.all letB) := by
  unfold nameB isWordB
  cases hl : s.all letB
  · simp
  · rw [name_word hl]
    cases s with
    | nil => simp
    | cons c s =>
      rw [List.all_cons, Bool.and_eq_true] at hl
      have h4 : (c :: s).all (fun c => decide (wk c ≤ 4)) = true := by
        rw [List.all_eq_true]
        intro x hx
        have : letB x = true := by
          rcases List.mem_cons.1 hx with rfl | hx
          · exact hl.1
          · exact List.all_eq_true.1 hl.2 x hx
        unfold letB at this
        simp only [Bool.or_eq_true, decide_eq_true_eq] at this
        rw [decide_eq_true_eq]; omega
      rw [h4]
      simp only [hl.1]
      simp
      omega
end Go.Ap




namespace Go.Ap
open Go

theorem flags_range {P : Int → Prop} (h : ∀ n : Fin 32, P (n.val : Int)) {f : Int} (h0 : 0 ≤ f) (h1 : f ≤ 31) : P f := by
  have := h ⟨f.toNat, by omega⟩
  rw [show ((⟨f.toNat, by omega⟩ : Fin 32).val : Int) = f by simp only; omega] at this
  exact this
theorem bits10 {f : Int} (h0 : 0 ≤ f) (h1 : f ≤ 31) : (bits BinOp.and IntKind.i64 f 10 == 0) = (!isGap f && !isMark f) :=
  flags_range (P := fun f => (bits BinOp.and IntKind.i64 f 10 == 0) = (!isGap f && !isMark f)) (by decide) h0 h1
theorem bits2 {f : Int} (h0 : 0 ≤ f) (h1 : f ≤ 31) : (bits BinOp.and IntKind.i64 f 2 == 0) = !isGap f :=
  flags_range (P := fun f => (bits BinOp.and IntKind.i64 f 2 == 0) = !isGap f) (by decide) h0 h1
theorem bits8 {f : Int} (h0 : 0 ≤ f) (h1 : f ≤ 31) : (bits BinOp.and IntKind.i64 f 8 == 0) = !isMark f :=
  flags_range (P := fun f => (bits BinOp.and IntKind.i64 f 8 == 0) = !isMark f) (by decide) h0 h1

theorem dec_dig (n : Nat) (h : n < 100) : Lib.decDigits n = dig2 n := by
  unfold dig2
  by_cases h1 : n < 10
  · rw [if_pos h1, Lib.decDigits, dif_pos h1]
  · rw [if_neg h1, Lib.decDigits, dif_neg h1, Lib.decDigits, dif_pos (by omega)]
    rfl
theorem atoi_dig : ∀ n : Fin 64, Lib.atoiAll (dig2 (n.val + 1)) = .ok ((n.val + 1 : Nat) : Int) := by decide
/-- what a gap's inner string is -/
def gapIn (s : Str) : Str := (s.drop 1).take (s.length - 1 - 1)
theorem gap_len {n : Nat} : (gapS n).length = (dig2 n).length + 2 := by simp [gapS]
theorem dig_len (n : Nat) : 1 ≤ (dig2 n).length ∧ (dig2 n).length ≤ 2 := by unfold dig2; split <;> simp
theorem gap_form {s : Str} (h : gapB s = true) : ∃ n, 1 ≤ n ∧ n ≤ 64 ∧ s = gapS n := by
  unfold gapB at h
  obtain ⟨n, hn, h⟩ := List.any_eq_true.1 h
  rw [List.mem_range] at hn
  exact ⟨n + 1, by omega, by omega, of_decide_eq_true h⟩
theorem gap_of {n : Nat} (h1 : 1 ≤ n) (h2 : n ≤ 64) : gapB (gapS n) = true := by
  unfold gapB
  exact List.any_eq_true.2 ⟨n - 1, List.mem_range.2 (by omega), by rw [show n - 1 + 1 = n by omega]; simp⟩
theorem gap_in {n : Nat} : gapIn (gapS n) = dig2 n := by
  unfold gapIn gapS
  simp
theorem gap_short {s : Str} (h : s.length < 3) : gapB s = false := by
  cases hg : gapB s
  · rfl
  · obtain ⟨n, _, _, rfl⟩ := gap_form hg
    rw [gap_len] at h
    have := dig_len n
    omega
theorem gap_first {s : Str} (h : 0 < s.length) (h1 : s[0] ≠ 91) : gapB s = false := by
  cases hg : gapB s
  · rfl
  · obtain ⟨n, _, _, rfl⟩ := gap_form hg
    exact absurd rfl h1
theorem gap_last {s : Str} (h : s.length - 1 < s.length) (h1 : s[s.length - 1] ≠ 93) : gapB s = false := by
  cases hg : gapB s
  · rfl
  · obtain ⟨n, _, _, rfl⟩ := gap_form hg
    refine absurd ?_ h1
    simp only [gapS, ← List.cons_append, List.length_append, List.length_singleton, Nat.add_sub_cancel]
    rw [List.getElem_append_right (by simp)]
    simp
/-- a numeral that is no number of a gap -/
theorem gap_err {s : Str} (h : ∀ v, Lib.atoiAll (gapIn s) ≠ .ok v) : gapB s = false := by
  cases hg : gapB s
  · rfl
  · obtain ⟨n, h1, h2, rfl⟩ := gap_form hg
    rw [gap_in] at h
    have := atoi_dig ⟨n - 1, by omega⟩
    simp only [show n - 1 + 1 = n by omega] at this
    exact absurd this (h _)
theorem gap_ok {s : Str} {v : Int} (h : Lib.atoiAll (gapIn s) = .ok v) : gapB s = (decide (1 ≤ v) && decide (v ≤ 64) && decide (s = gapS v.toNat)) := by
  cases hg : gapB s
  · by_cases h1 : 1 ≤ v
    · by_cases h2 : v ≤ 64
      · by_cases h3 : s = gapS v.toNat
        · rw [h3, gap_of (by omega) (by omega)] at hg
          cases hg
        · simp [h3]
      · simp [h2]
    · simp [h1]
  · obtain ⟨n, h1, h2, rfl⟩ := gap_form hg
    rw [gap_in] at h
    have := atoi_dig ⟨n - 1, by omega⟩
    simp only [show n - 1 + 1 = n by omega] at this
    rw [this] at h
    cases h
    simp
    omega
end Go.Ap


namespace Go.Ap

def wkAt (s : Str) (i : Nat) : Int := match s[i]? with | some c => wk c | none => 0
theorem wkAt_of {s : Str} {i : Nat} (h : i < s.length) : wkAt s i = wk s[i] := by simp [wkAt, h]
/-- the character at i goes on with the cluster that begins at f -/
def contB (s : Str) (f i : Nat) : Bool := decide (i < s.length) && decide (wkAt s i = 2) && decide (wkAt s f = 1)
abbrev Clu := Nat × Str
/-- the clusters that end before or at n, and where the open one begins -/
def clF (s : Str) : Nat → List Clu × Nat
  | 0 => ([], 0)
  | n + 1 => if contB s (clF s n).2 (n + 1) then clF s n else ((clF s n).1 ++ [((clF s n).2, (s.drop (clF s n).2).take (n + 1 - (clF s n).2))], n + 1)
def clL (s : Str) : List Clu := (clF s s.length).1
section
variable {s : Str} {n : Nat}
theorem clF_go (h : contB s (clF s n).2 (n + 1) = true) : clF s (n + 1) = clF s n := by rw [clF, if_pos h]
theorem clF_new (h : contB s (clF s n).2 (n + 1) = false) : clF s (n + 1) = ((clF s n).1 ++ [((clF s n).2, (s.drop (clF s n).2).take (n + 1 - (clF s n).2))], n + 1) := by rw [clF, if_neg (by simp [h])]
theorem clF_le (s : Str) : ∀ n, (clF s n).2 ≤ n
  | 0 => Nat.le_refl _
  | n + 1 => by
    have := clF_le s n
    cases h : contB s (clF s n).2 (n + 1)
    · rw [clF_new h]; exact Nat.le_refl _
    · rw [clF_go h]; omega
theorem clF_pre (s : Str) (n : Nat) : ∀ d, (clF s n).1 <+: (clF s (n + d)).1
  | 0 => List.prefix_refl _
  | d + 1 => by
    refine (clF_pre s n d).trans ?_
    show (clF s (n + d)).1 <+: (clF s (n + d + 1)).1
    cases h : contB s (clF s (n + d)).2 (n + d + 1)
    · rw [clF_new h]; exact List.prefix_append _ _
    · rw [clF_go h]; exact List.prefix_refl _
theorem clL_pre (h : n ≤ s.length) : (clF s n).1 <+: clL s := by
  obtain ⟨d, hd⟩ := Nat.exists_eq_add_of_le h
  have := clF_pre s n d
  rw [← hd] at this
  exact this
/-- a cluster begins with a character of the string -/
theorem clF_mem : ∀ {n : Nat}, n ≤ s.length → ∀ x ∈ (clF s n).1, x.1 < s.length ∧ 0 < x.2.length ∧ x.2.length ≤ s.length
  | 0, _, x, hx => by cases hx
  | n + 1, hn, x, hx => by
    have hle := clF_le s n
    cases h : contB s (clF s n).2 (n + 1)
    · rw [clF_new h, List.mem_append, List.mem_singleton] at hx
      rcases hx with hx | rfl
      · exact clF_mem (by omega) x hx
      · refine ⟨by simp only; omega, ?_, ?_⟩
        · simp only [List.length_take, List.length_drop]; omega
        · simp only [List.length_take, List.length_drop]; omega
    · rw [clF_go h] at hx
      exact clF_mem (by omega) x hx
/-- a cluster that begins as it may -/
def okC (x : Clu) : Bool := match x.2 with | [] => false | c :: _ => decide (wk c ≠ 0) && decide (wk c ≠ 2)
def okAt (s : Str) (f : Nat) : Bool := decide (wkAt s f ≠ 0) && decide (wkAt s f ≠ 2)
theorem okC_of {f d : Nat} (h : f < s.length) (hd : 0 < d) : okC (f, (s.drop f).take d) = okAt s f := by
  obtain ⟨e, rfl⟩ : ∃ e, d = e + 1 := ⟨d - 1, by omega⟩
  rw [List.drop_eq_getElem_cons h, List.take_succ_cons]
  simp only [okC, okAt, wkAt_of h]
theorem marks_at {i : Nat} {a : Bool} (h : i < s.length) : marksB a (s.drop i) = (decide (wkAt s i ≠ 0) && (decide (wkAt s i ≠ 2) || a) && marksB (decide (wkAt s i = 1) || (decide (wkAt s i = 2) && a)) (s.drop (i + 1))) := by
  rw [List.drop_eq_getElem_cons h, marksB, wkAt_of h]
/-- where the clusters stand, what is still to be asked -/
theorem clF_marks : ∀ {n : Nat}, n < s.length → marksB false s = ((clF s n).1.all okC && (okAt s (clF s n).2 && marksB (decide (wkAt s (clF s n).2 = 1)) (s.drop (n + 1))))
  | 0, h => by
    have h1 := marks_at (s := s) (a := false) h
    rw [List.drop_zero] at h1
    rw [h1]
    simp only [clF, List.all_nil, Bool.true_and, Bool.or_false, Bool.and_false, okAt, Bool.and_assoc]
    rfl
  | n + 1, h => by
    have hle := clF_le s n
    rw [clF_marks (n := n) (by omega), marks_at h]
    cases hc : contB s (clF s n).2 (n + 1)
    · rw [clF_new hc]
      have hcc : (decide (wkAt s (n + 1) = 2) && decide (wkAt s (clF s n).2 = 1)) = false := by
        unfold contB at hc
        rw [decide_eq_true h, Bool.true_and] at hc
        exact hc
      simp only [List.all_append, List.all_cons, List.all_nil, Bool.and_true]
      rw [okC_of (by omega) (by omega), hcc, Bool.or_false]
      have h2 : (decide (wkAt s (n + 1) ≠ 2) || decide (wkAt s (clF s n).2 = 1)) = decide (wkAt s (n + 1) ≠ 2) := by
        by_cases h3 : wkAt s (n + 1) = 2
        · rw [h3] at hcc ⊢
          simp at hcc
          simp [hcc]
        · simp [h3]
      rw [h2]
      simp only [okAt, Bool.and_assoc]
    · rw [clF_go hc]
      unfold contB at hc
      simp only [Bool.and_eq_true, decide_eq_true_eq] at hc
      have h4 : wkAt s (n + 1) = 2 := hc.1.2
      have h5 : wkAt s (clF s n).2 = 1 := hc.2
      rw [h4, h5]
      simp
theorem clL_marks : (clL s).all okC = marksB false s := by
  unfold clL
  cases hs : s.length with
  | zero =>
    have : s = [] := List.eq_nil_of_length_eq_zero hs
    subst this
    rfl
  | succ m =>
    have hc : contB s (clF s m).2 (m + 1) = false := by simp [contB, hs]
    have hle := clF_le s m
    have hd : s.drop (m + 1) = [] := List.drop_of_length_le (by omega)
    rw [clF_new hc, clF_marks (n := m) (by omega), hd]
    simp only [List.all_append, List.all_cons, List.all_nil, Bool.and_true, marksB]
    rw [okC_of (by omega) (by omega)]
end
end Go.Ap


namespace Go.Ap

/-- a mark stands right at i -/
def rtB (s : Str) : Nat → Bool
  | 0 => false
  | i + 1 => decide (wkAt s (i + 1) = 2) && (decide (wkAt s i = 1) || rtB s i)
/-- a mark may stand at i -/
def mayB (s : Str) : Nat → Bool
  | 0 => false
  | i + 1 => decide (wkAt s i = 1) || (decide (wkAt s i = 2) && mayB s i)
theorem rt_may (s : Str) : ∀ i, rtB s i = (decide (wkAt s i = 2) && mayB s i)
  | 0 => by simp [rtB, mayB]
  | i + 1 => by rw [rtB, mayB, rt_may s i]
def badAt (s : Str) (i : Nat) : Bool := decide (wkAt s i = 0) || (decide (wkAt s i = 2) && !rtB s i)
theorem bad_no {s : Str} {i : Nat} (h : i < s.length) (hm : marksB false s = marksB (mayB s i) (s.drop i)) (hb : badAt s i = true) : marksB false s = false := by
  rw [hm, marks_at h]
  unfold badAt at hb
  rw [rt_may] at hb
  by_cases h0 : wkAt s i = 0
  · simp [h0]
  · by_cases h2 : wkAt s i = 2
    · cases hy : mayB s i
      · simp [h2]
      · rw [hy] at hb; simp [h2] at hb
    · simp [h0, h2] at hb
theorem bad_yes {s : Str} {i : Nat} (h : i < s.length) (hm : marksB false s = marksB (mayB s i) (s.drop i)) (hb : badAt s i = false) : marksB false s = marksB (mayB s (i + 1)) (s.drop (i + 1)) := by
  rw [hm, marks_at h, mayB]
  unfold badAt at hb
  rw [rt_may] at hb
  by_cases h0 : wkAt s i = 0
  · simp [h0] at hb
  · by_cases h2 : wkAt s i = 2
    · cases hy : mayB s i
      · rw [hy] at hb; simp [h2] at hb
      · simp [h2]
    · simp [h0, h2]
theorem bad_end {s : Str} (hm : marksB false s = marksB (mayB s s.length) (s.drop s.length)) : marksB false s = true := by
  rw [hm, List.drop_length]; rfl
def rtL (s : Str) (i : Nat) : List Bool := (List.range i).map (rtB s)
theorem rtL_succ (s : Str) (i : Nat) : rtL s (i + 1) = rtL s i ++ [rtB s i] := by simp [rtL, List.range_succ]
theorem rtL_at {s : Str} {i k : Nat} (h : k < i) : (rtL s i)[k]? = some (rtB s k) := by simp [rtL, h]
/-- a word's characters, from i on -/
theorem all_at {p : UInt8 → Bool} {s : Str} {i : Nat} (h : i < s.length) : (s.drop i).all p = (p s[i] && (s.drop (i + 1)).all p) := by
  rw [List.drop_eq_getElem_cons h, List.all_cons]
end Go.Ap


namespace Go.Ap

/-- a siglum: a name, or a name and a star, sixteen characters at the most -/
def sigB (s : Str) : Bool := if s.getLast? = some 42 then decide (s.length ≤ 16) && nameB s.dropLast else nameB s
def sigE : List Str → List Str → Int
  | _, [] => 0
  | pre, s :: r => if sigB s = false then 14 else if pre.contains s = true then 7 else sigE (pre ++ [s]) r
def tokE : List (List Tok) → Int
  | [] => 0
  | l :: r => if 1024 < l.length then 4 else if (l.any fun t => decide (tokC t ≠ 0)) = true then 1 else tokE r
def headC (sec : Str) (sig : List Str) (tk : List (List Tok)) : Int :=
  if nameB sec = false then 14 else if sig.length = 0 then 5 else if 32 < sig.length then 4
  else if sigE [] sig ≠ 0 then sigE [] sig else if tk.length ≠ sig.length then 9 else tokE tk
section
variable {sig : List Str} {i : Nat}
theorem sigE_at (h : i < sig.length) : sigE (sig.take i) (sig.drop i) = if sigB sig[i] = false then 14 else if (sig.take i).contains sig[i] = true then 7 else sigE (sig.take (i + 1)) (sig.drop (i + 1)) := by
  rw [List.drop_eq_getElem_cons h, sigE, List.take_succ_eq_append_getElem h]
theorem sigE_bad (h : i < sig.length) (hm : sigE [] sig = sigE (sig.take i) (sig.drop i)) (hb : sigB sig[i] = false) : sigE [] sig = 14 := by
  rw [hm, sigE_at h, if_pos hb]
theorem sigE_dup (h : i < sig.length) (hm : sigE [] sig = sigE (sig.take i) (sig.drop i)) (hb : sigB sig[i] = true) (hc : (sig.take i).contains sig[i] = true) : sigE [] sig = 7 := by
  rw [hm, sigE_at h, if_neg (by rw [hb]; simp), if_pos hc]
theorem sigE_go (h : i < sig.length) (hm : sigE [] sig = sigE (sig.take i) (sig.drop i)) (hb : sigB sig[i] = true) (hc : (sig.take i).contains sig[i] = false) : sigE [] sig = sigE (sig.take (i + 1)) (sig.drop (i + 1)) := by
  rw [hm, sigE_at h, if_neg (by rw [hb]; simp), if_neg (by rw [hc]; simp)]
theorem sigE_end (hm : sigE [] sig = sigE (sig.take sig.length) (sig.drop sig.length)) : sigE [] sig = 0 := by
  rw [hm, List.drop_length]; rfl
variable {tk : List (List Tok)}
theorem tokE_at (h : i < tk.length) : tokE (tk.drop i) = if 1024 < tk[i].length then 4 else if (tk[i].any fun t => decide (tokC t ≠ 0)) = true then 1 else tokE (tk.drop (i + 1)) := by
  rw [List.drop_eq_getElem_cons h, tokE]
theorem tokE_end (hm : tokE tk = tokE (tk.drop tk.length)) : tokE tk = 0 := by
  rw [hm, List.drop_length]; rfl
end
section
variable {sec : Str} {sig : List Str} {tk : List (List Tok)}
theorem head_1 (h : nameB sec = false) : headC sec sig tk = 14 := by rw [headC, if_pos h]
theorem head_2 (h : nameB sec = true) (h2 : sig.length = 0) : headC sec sig tk = 5 := by rw [headC, if_neg (by rw [h]; simp), if_pos h2]
theorem head_3 (h : nameB sec = true) (h3 : 32 < sig.length) : headC sec sig tk = 4 := by rw [headC, if_neg (by rw [h]; simp), if_neg (by omega), if_pos h3]
theorem head_4 (h : nameB sec = true) (h2 : ¬ sig.length = 0) (h3 : ¬ 32 < sig.length) {e : Int} (he : sigE [] sig = e) (h0 : e ≠ 0) : headC sec sig tk = e := by
  rw [headC, if_neg (by rw [h]; simp), if_neg h2, if_neg h3, if_pos (by rw [he]; exact h0), he]
theorem head_5 (h : nameB sec = true) (h2 : ¬ sig.length = 0) (h3 : ¬ 32 < sig.length) (he : sigE [] sig = 0) (h5 : tk.length ≠ sig.length) : headC sec sig tk = 9 := by
  rw [headC, if_neg (by rw [h]; simp), if_neg h2, if_neg h3, if_neg (by rw [he]; simp), if_pos h5]
theorem head_6 (h : nameB sec = true) (h2 : ¬ sig.length = 0) (h3 : ¬ 32 < sig.length) (he : sigE [] sig = 0) (h5 : tk.length = sig.length) : headC sec sig tk = tokE tk := by
  rw [headC, if_neg (by rw [h]; simp), if_neg h2, if_neg h3, if_neg (by rw [he]; simp), if_neg (by omega)]
end
theorem last_take {s : Str} : s.take (s.length - 1) = s.dropLast := (List.dropLast_eq_take).symm
theorem last_at {s : Str} (h : s.length - 1 < s.length) : decide (s.getLast? = some 42) = decide (s[s.length - 1] = 42) := by
  rw [List.getLast?_eq_getElem?, List.getElem?_eq_getElem h]
  simp
theorem sig_star {s : Str} (h : decide (s.getLast? = some 42) = true) : sigB s = (decide (s.length ≤ 16) && nameB s.dropLast) := by
  rw [sigB, if_pos (of_decide_eq_true h)]
theorem sig_plain {s : Str} (h : decide (s.getLast? = some 42) = false) : sigB s = nameB s := by
  rw [sigB, if_neg (of_decide_eq_false h)]
end Go.Ap



namespace Go.Ap

def lensT (tk : List (List Tok)) : List Int := tk.map fun l => (l.length : Int)
theorem lensT_len {tk : List (List Tok)} : (lensT tk).length = tk.length := by simp [lensT]
theorem lensT_at {tk : List (List Tok)} {k : Nat} {l : List Tok} (h : tk[k]? = some l) : nth (lensT tk) k = (l.length : Int) := by
  simp [nth, lensT, h]
/-- one element of a column: what comes next in each source; whether the column has a token -/
def eltA (L nx : List Int) (k : Nat) (x : Int) (sm : Bool) : Option (List Int × Bool) :=
  if x = -1 then some (nx, sm) else if x ≠ nth nx k then none else if nth L k ≤ x then none else some (nx.set k (nth nx k + 1), true)
def colA (L c nx : List Int) : Nat → Option (List Int × Bool)
  | 0 => some (nx, false)
  | k + 1 => (colA L c nx k).bind fun p => eltA L p.1 k (nth c k) p.2
def rowA (L c nx : List Int) : Option (List Int) :=
  if c.length ≠ L.length then none else (colA L c nx c.length).bind fun p => if p.2 = true then some p.1 else none
def colsA (L : List Int) (cols : List (List Int)) : Nat → Option (List Int)
  | 0 => some (List.replicate L.length 0)
  | i + 1 => (colsA L cols i).bind fun nx => rowA L (cols.getD i []) nx
def alignB (L : List Int) (cols : List (List Int)) : Bool := match colsA L cols cols.length with | some nx => decide (nx = L) | none => false

/-- what comes next lies in its source -/
def NxOK (L nx : List Int) : Prop := nx.length = L.length ∧ ∀ j, j < L.length → 0 ≤ nth nx j ∧ nth nx j ≤ nth L j
section
variable {L c nx nx' : List Int} {cols : List (List Int)} {i k : Nat} {x : Int} {sm sm' : Bool}
theorem NxOK.zero (h : ∀ j, j < L.length → 0 ≤ nth L j) : NxOK L (List.replicate L.length 0) :=
  ⟨by simp, fun j hj => by
    have : nth (List.replicate L.length 0) j = 0 := by simp [nth, List.getD_eq_getElem?_getD, hj]
    rw [this]; exact ⟨Int.le_refl _, h j hj⟩⟩
theorem eltA_ok (h : NxOK L nx) (hk : k < L.length) (he : eltA L nx k x sm = some (nx', sm')) : NxOK L nx' := by
  unfold eltA at he
  split at he
  · cases he; exact h
  · split at he
    · cases he
    · split at he
      · cases he
      · rename_i h1 h2 h3
        cases he
        simp only [ne_eq, Decidable.not_not] at h2
        have hl := h.1
        refine ⟨by rw [List.length_set]; exact h.1, fun j hj => ?_⟩
        rw [nth_set (by omega)]
        have h4 := h.2 j hj
        split
        · rename_i hjk; subst hjk; omega
        · exact h4
theorem colA_ok (h : NxOK L nx) : ∀ {k : Nat}, k ≤ L.length → ∀ {nx' sm'}, colA L c nx k = some (nx', sm') → NxOK L nx'
  | 0, _, _, _, he => by cases he; exact h
  | k + 1, hk, nx', sm', he => by
    rw [colA] at he
    obtain ⟨⟨n1, s1⟩, h1, h2⟩ := Option.bind_eq_some_iff.1 he
    exact eltA_ok (colA_ok h (by omega) h1) (by omega) h2
theorem colA_none : ∀ {d : Nat}, colA L c nx k = none → colA L c nx (k + d) = none
  | 0, h => h
  | d + 1, h => by
    show colA L c nx (k + d + 1) = none
    rw [colA, colA_none h]; rfl
theorem rowA_none (hk : k ≤ c.length) (h : colA L c nx k = none) : rowA L c nx = none := by
  unfold rowA
  split
  · rfl
  · obtain ⟨d, hd⟩ := Nat.exists_eq_add_of_le hk
    rw [hd, colA_none h]; rfl
theorem rowA_len (h : c.length ≠ L.length) : rowA L c nx = none := if_pos h
theorem rowA_some (hl : c.length = L.length) (h : colA L c nx c.length = some (nx', true)) : rowA L c nx = some nx' := by
  rw [rowA, if_neg (by omega), h]; rfl
theorem rowA_void (hl : c.length = L.length) (h : colA L c nx c.length = some (nx', false)) : rowA L c nx = none := by
  rw [rowA, if_neg (by omega), h]; rfl
theorem colsA_none : ∀ {d : Nat}, colsA L cols i = none → colsA L cols (i + d) = none
  | 0, h => h
  | d + 1, h => by
    show colsA L cols (i + d + 1) = none
    rw [colsA, colsA_none h]; rfl
theorem align_none (hi : i ≤ cols.length) (h : colsA L cols i = none) : alignB L cols = false := by
  obtain ⟨d, hd⟩ := Nat.exists_eq_add_of_le hi
  rw [alignB, hd, colsA_none h]
theorem colsA_step (h : colsA L cols i = some nx) (hc : cols.getD i [] = c) : colsA L cols (i + 1) = rowA L c nx := by
  rw [colsA, h, ← hc]; rfl
theorem colA_step (h : colA L c nx k = some (nx', sm)) : colA L c nx (k + 1) = eltA L nx' k (nth c k) sm := by
  rw [colA, h]; rfl
theorem eltA_skip (h : x = -1) : eltA L nx k x sm = some (nx, sm) := if_pos h
theorem eltA_ne (h : x ≠ -1) (h1 : x ≠ nth nx k) : eltA L nx k x sm = none := by rw [eltA, if_neg h, if_pos h1]
theorem eltA_hi (h : x ≠ -1) (h1 : x = nth nx k) (h2 : nth L k ≤ x) : eltA L nx k x sm = none := by rw [eltA, if_neg h, if_neg (by omega), if_pos h2]
theorem eltA_go (h : x ≠ -1) (h1 : x = nth nx k) (h2 : ¬ nth L k ≤ x) : eltA L nx k x sm = some (nx.set k (nth nx k + 1), true) := by rw [eltA, if_neg h, if_neg (by omega), if_neg h2]
theorem align_end (h : colsA L cols cols.length = some nx) : alignB L cols = decide (nx = L) := by rw [alignB, h]
/-- two lists of one length are one, or differ at a place -/
theorem eq_upto (hl : nx.length = L.length) (h : ∀ j, j < L.length → nth nx j = nth L j) : nx = L := by
  refine List.ext_getElem hl fun j h1 h2 => ?_
  have := h j h2
  rwa [nth_eq h1, nth_eq h2] at this
theorem ne_at (h : nth nx k ≠ nth L k) : nx ≠ L := fun e => h (by rw [e])
end
theorem lensT_nonneg {tk : List (List Tok)} {j : Nat} (h : j < (lensT tk).length) : 0 ≤ nth (lensT tk) j := by
  rw [lensT_len] at h
  rw [lensT_at (List.getElem?_eq_getElem h)]
  omega
end Go.Ap


namespace Go.Ap
def collC (x : Coll) : Int :=
  if headC x.sec x.sigla x.tokens ≠ 0 then headC x.sec x.sigla x.tokens else if alignB (lensT x.tokens) x.columns = true then 0 else 19
theorem tokE_zero : ∀ {tk : List (List Tok)}, tokE tk = 0 → ∀ l ∈ tk, l.length ≤ 1024 ∧ ∀ t ∈ l, tokC t = 0
  | [], _, l, hl => by cases hl
  | a :: r, h, l, hl => by
    rw [tokE] at h
    split at h
    · omega
    · split at h
      · omega
      · rename_i h1 h2
        rcases List.mem_cons.1 hl with rfl | hl
        · refine ⟨by omega, fun t ht => ?_⟩
          by_cases h0 : tokC t = 0
          · exact h0
          · exact absurd (List.any_eq_true.2 ⟨t, ht, decide_eq_true h0⟩) h2
        · exact tokE_zero h l hl
theorem head_zero {sec : Str} {sig : List Str} {tk : List (List Tok)} (h : headC sec sig tk = 0) : nameB sec = true ∧ 0 < sig.length ∧ sig.length ≤ 32 ∧ sigE [] sig = 0 ∧ tk.length = sig.length ∧ tokE tk = 0 := by
  unfold headC at h
  split at h
  · omega
  · split at h
    · omega
    · split at h
      · omega
      · split at h
        · rename_i h4; exact absurd h h4
        · split at h
          · omega
          · rename_i h1 h2 h3 h4 h5
            exact ⟨by simpa using h1, by omega, by omega, by simpa using h4, by simpa using h5, h⟩
section
variable {x : Coll}
theorem coll_head {e : Int} (h : headC x.sec x.sigla x.tokens = e) (h0 : e ≠ 0) : collC x = e := by rw [collC, if_pos (by rw [h]; exact h0), h]
theorem coll_al (h : headC x.sec x.sigla x.tokens = 0) (ha : alignB (lensT x.tokens) x.columns = true) : collC x = 0 := by rw [collC, if_neg (by rw [h]; simp), if_pos ha]
theorem coll_no (h : headC x.sec x.sigla x.tokens = 0) (ha : alignB (lensT x.tokens) x.columns = false) : collC x = 19 := by rw [collC, if_neg (by rw [h]; simp), if_neg (by rw [ha]; simp)]
end
end Go.Ap


namespace Go.Ap

/-- an element of a column: no token, or a place in its source -/
def EltOK (L : List Int) (k : Nat) (x : Int) : Prop := x = -1 ∨ (0 ≤ x ∧ x < nth L k)
def RowOK (L c : List Int) : Prop := c.length = L.length ∧ ∀ k, k < L.length → EltOK L k (nth c k)
/-- a valid collation -/
structure Val (x : Coll) : Prop where
  pos : 0 < x.sigla.length
  le : x.sigla.length ≤ 32
  toks : x.tokens.length = x.sigla.length
  rows : ∀ l ∈ x.tokens, l.length ≤ 1024 ∧ ∀ t ∈ l, tokC t = 0
  cols : ∀ c ∈ x.columns, RowOK (lensT x.tokens) c
  al : colsA (lensT x.tokens) x.columns x.columns.length = some (lensT x.tokens)
section
variable {L c nx nx' : List Int} {cols : List (List Int)} {sm : Bool}
theorem eltA_elt {k : Nat} {x : Int} {sm' : Bool} (h : NxOK L nx) (hk : k < L.length) (he : eltA L nx k x sm = some (nx', sm')) : EltOK L k x := by
  unfold eltA at he
  split at he
  · rename_i h1; exact .inl h1
  · split at he
    · cases he
    · split at he
      · cases he
      · rename_i h1 h2 h3
        simp only [ne_eq, Decidable.not_not] at h2
        have := h.2 k hk
        exact .inr ⟨by omega, by omega⟩
theorem colA_elts (h : NxOK L nx) : ∀ {k : Nat}, k ≤ L.length → ∀ {nx' sm'}, colA L c nx k = some (nx', sm') → ∀ j, j < k → EltOK L j (nth c j)
  | 0, _, _, _, _, j, hj => by omega
  | k + 1, hk, nx', sm', he, j, hj => by
    rw [colA] at he
    obtain ⟨⟨n1, s1⟩, h1, h2⟩ := Option.bind_eq_some_iff.1 he
    by_cases hjk : j = k
    · subst hjk; exact eltA_elt (colA_ok h (by omega) h1) (by omega) h2
    · exact colA_elts h (by omega) h1 j (by omega)
theorem rowA_ok (h : NxOK L nx) (hr : rowA L c nx = some nx') : RowOK L c ∧ NxOK L nx' := by
  unfold rowA at hr
  split at hr
  · cases hr
  · rename_i hl
    simp only [ne_eq, Decidable.not_not] at hl
    obtain ⟨⟨n1, s1⟩, h1, h2⟩ := Option.bind_eq_some_iff.1 hr
    simp only at h2
    split at h2
    · cases h2
      exact ⟨⟨hl, fun k hk => colA_elts h (by omega) h1 k (by omega)⟩, colA_ok h (by omega) h1⟩
    · cases h2
theorem colsA_ok (h0 : NxOK L (List.replicate L.length 0)) : ∀ {i : Nat} {nx : List Int}, i ≤ cols.length → colsA L cols i = some nx → NxOK L nx ∧ ∀ j, j < i → RowOK L (cols.getD j [])
  | 0, nx, _, h => by cases h; exact ⟨h0, fun j hj => by omega⟩
  | i + 1, nx, hi, h => by
    rw [colsA] at h
    obtain ⟨n1, h1, h2⟩ := Option.bind_eq_some_iff.1 h
    obtain ⟨k1, k2⟩ := colsA_ok h0 (by omega) h1
    obtain ⟨k3, k4⟩ := rowA_ok k1 h2
    refine ⟨k4, fun j hj => ?_⟩
    by_cases hji : j = i
    · subst hji; exact k3
    · exact k2 j (by omega)
end
theorem val_of {x : Coll} (h : collC x = 0) : Val x := by
  have hh : headC x.sec x.sigla x.tokens = 0 := by
    by_cases h0 : headC x.sec x.sigla x.tokens = 0
    · exact h0
    · rw [coll_head rfl h0] at h; exact h
  have ha : alignB (lensT x.tokens) x.columns = true := by
    cases ha : alignB (lensT x.tokens) x.columns
    · rw [coll_no hh ha] at h; cases h
    · rfl
  obtain ⟨g1, g2, g3, g4, g5, g6⟩ := head_zero hh
  have hal : colsA (lensT x.tokens) x.columns x.columns.length = some (lensT x.tokens) := by
    unfold alignB at ha
    split at ha
    · rename_i nx hnx; rw [hnx, of_decide_eq_true ha]
    · cases ha
  refine ⟨g2, g3, g5, tokE_zero g6, fun c hc => ?_, hal⟩
  obtain ⟨j, hj⟩ := List.getElem?_of_mem hc
  have hjl := (List.getElem?_eq_some_iff.1 hj).1
  have := (colsA_ok (NxOK.zero fun j hj => lensT_nonneg hj) (Nat.le_refl _) hal).2 j hjl
  rwa [List.getD_eq_getElem?_getD, hj] at this

/-- the word of a source in a column -/
def cellO (x : Coll) (col src : Nat) : Option Str :=
  match x.columns[col]? with
  | some c => if nth c src < 0 then none else (x.tokens[src]?.bind fun l => l[(nth c src).toNat]?).map (·.text)
  | none => none
theorem cellO_neg {x : Coll} {col src : Nat} {c : List Int} (hc : x.columns[col]? = some c) (h : nth c src < 0) : cellO x col src = none := by
  rw [cellO, hc]; exact if_pos h
theorem cellO_pos {x : Coll} {col src : Nat} {c : List Int} {l : List Tok} {t : Tok} {n : Nat} (hc : x.columns[col]? = some c) (h : nth c src = n) (hl : x.tokens[src]? = some l) (ht : l[n]? = some t) : cellO x col src = some t.text := by
  rw [cellO, hc]
  simp only [h, hl, Int.toNat_natCast, Option.bind_some, ht, Option.map_some]
  exact if_neg (by omega)
/-- the words of a source in columns -/
def readL (x : Coll) (s lo hi : Nat) : List Str := (List.range' lo (hi - lo)).filterMap fun k => cellO x k s
end Go.Ap


namespace Go.Ap

/-- one more source: it goes to the reading of the same words, or makes one -/
def addR : List Rdg → List Str → Int → List Rdg
  | [], ws, s => [(ws, [s])]
  | (u, l) :: r, ws, s => if u = ws then (u, l ++ [s]) :: r else (u, l) :: addR r ws s
/-- the readings of the first sources -/
def rdsN (x : Coll) (lo hi : Nat) : Nat → List Rdg
  | 0 => []
  | s + 1 => addR (rdsN x lo hi s) (readL x s lo hi) (s : Int)
def rdsL (x : Coll) (lo hi : Nat) : List Rdg := rdsN x lo hi x.sigla.length
end Go.Ap


namespace Go.Ap

/-- readings of the first s sources, whose words are W: what holds of them -/
structure RdsAt (W : Nat → List Str) (s : Nat) (rds : List Rdg) : Prop where
  src : ∀ r ∈ rds, (∃ a, r.2[0]? = some a) ∧ r.2.Pairwise (· < ·) ∧ ∀ z ∈ r.2, ∃ k : Nat, z = k ∧ k < s ∧ W k = r.1
  neq : rds.Pairwise fun q r => q.1 ≠ r.1
  asc : rds.Pairwise fun q r => ∀ a b, q.2[0]? = some a → r.2[0]? = some b → a < b
  all : ∀ k, k < s → ∃ r ∈ rds, (k : Int) ∈ r.2
theorem RdsAt.zero (W : Nat → List Str) : RdsAt W 0 [] := ⟨fun r hr => (by cases hr), .nil, .nil, fun k hk => (by omega)⟩
theorem addR_words : ∀ {rds : List Rdg} {ws : List Str} {s : Int} {r : Rdg}, r ∈ addR rds ws s → r = (ws, [s]) ∨ r ∈ rds ∨ ∃ l, (ws, l) ∈ rds ∧ r = (ws, l ++ [s])
  | [], ws, s, r, h => by rw [addR, List.mem_singleton] at h; exact .inl h
  | (u, l) :: q, ws, s, r, h => by
    rw [addR] at h
    split at h
    · rename_i hu
      rcases List.mem_cons.1 h with rfl | h
      · exact .inr (.inr ⟨l, by rw [← hu]; exact List.mem_cons_self, by rw [hu]⟩)
      · exact .inr (.inl (List.mem_cons_of_mem _ h))
    · rcases List.mem_cons.1 h with rfl | h
      · exact .inr (.inl List.mem_cons_self)
      · rcases addR_words h with h | h | ⟨l', h1, h2⟩
        · exact .inl h
        · exact .inr (.inl (List.mem_cons_of_mem _ h))
        · exact .inr (.inr ⟨l', List.mem_cons_of_mem _ h1, h2⟩)
theorem addR_keeps : ∀ {rds : List Rdg} {ws : List Str} {s z : Int} {r : Rdg}, r ∈ rds → z ∈ r.2 → ∃ q ∈ addR rds ws s, z ∈ q.2
  | (u, l) :: p, ws, s, z, r, h, hz => by
    rw [addR]
    rcases List.mem_cons.1 h with rfl | h
    · split
      · exact ⟨_, List.mem_cons_self, List.mem_append_left _ hz⟩
      · exact ⟨_, List.mem_cons_self, hz⟩
    · split
      · exact ⟨r, List.mem_cons_of_mem _ h, hz⟩
      · obtain ⟨q, hq, hzq⟩ := addR_keeps (ws := ws) (s := s) h hz
        exact ⟨q, List.mem_cons_of_mem _ hq, hzq⟩
theorem addR_new : ∀ (rds : List Rdg) (ws : List Str) (s : Int), ∃ q ∈ addR rds ws s, s ∈ q.2
  | [], ws, s => ⟨_, List.mem_cons_self, List.mem_cons_self⟩
  | (u, l) :: r, ws, s => by
    rw [addR]
    split
    · exact ⟨_, List.mem_cons_self, by simp⟩
    · obtain ⟨q, hq, hs⟩ := addR_new r ws s
      exact ⟨q, List.mem_cons_of_mem _ hq, hs⟩
theorem addR_neq : ∀ {rds : List Rdg} {ws : List Str} {s : Int}, rds.Pairwise (fun q r => q.1 ≠ r.1) → (addR rds ws s).Pairwise fun q r => q.1 ≠ r.1
  | [], ws, s, _ => List.pairwise_singleton _ _
  | (u, l) :: p, ws, s, h => by
    obtain ⟨h1, h2⟩ := List.pairwise_cons.1 h
    rw [addR]
    split
    · exact List.pairwise_cons.2 ⟨h1, h2⟩
    · rename_i hu
      refine List.pairwise_cons.2 ⟨fun r hr => ?_, addR_neq h2⟩
      rcases addR_words hr with rfl | hr | ⟨l', _, rfl⟩
      · exact hu
      · exact h1 r hr
      · exact hu
theorem first_append {l : List Int} {s a : Int} (h : ∃ b, l[0]? = some b) (ha : (l ++ [s])[0]? = some a) : l[0]? = some a := by
  cases l with
  | nil => obtain ⟨b, hb⟩ := h; simp at hb
  | cons x r => simpa using ha
theorem addR_asc : ∀ {rds : List Rdg} {ws : List Str} {s : Int}, (∀ r ∈ rds, (∃ a, r.2[0]? = some a) ∧ ∀ z ∈ r.2, z < s) → rds.Pairwise (fun q r => ∀ a b, q.2[0]? = some a → r.2[0]? = some b → a < b) → (addR rds ws s).Pairwise fun q r => ∀ a b, q.2[0]? = some a → r.2[0]? = some b → a < b
  | [], ws, s, _, _ => List.pairwise_singleton _ _
  | (u, l) :: p, ws, s, hs, h => by
    obtain ⟨h1, h2⟩ := List.pairwise_cons.1 h
    have h0 := hs (u, l) List.mem_cons_self
    rw [addR]
    split
    · exact List.pairwise_cons.2 ⟨fun r hr a b ha hb => h1 r hr a b (first_append h0.1 ha) hb, h2⟩
    · refine List.pairwise_cons.2 ⟨fun r hr a b ha hb => ?_, addR_asc (fun r hr => hs r (List.mem_cons_of_mem _ hr)) h2⟩
      rcases addR_words hr with rfl | hr | ⟨l', hl', rfl⟩
      · simp at hb; subst hb; exact h0.2 a (List.mem_of_getElem? ha)
      · exact h1 r hr a b ha hb
      · exact h1 _ hl' a b ha (first_append (hs _ (List.mem_cons_of_mem _ hl')).1 hb)
theorem RdsAt.step {W : Nat → List Str} {s : Nat} {rds : List Rdg} (h : RdsAt W s rds) : RdsAt W (s + 1) (addR rds (W s) (s : Int)) := by
  refine ⟨fun r hr => ?_, addR_neq h.neq, addR_asc (fun r hr => ⟨(h.src r hr).1, fun z hz => ?_⟩) h.asc, fun k hk => ?_⟩
  · rcases addR_words hr with rfl | hr | ⟨l, hl, rfl⟩
    · exact ⟨⟨_, rfl⟩, List.pairwise_singleton _ _, fun z hz => by rw [List.mem_singleton] at hz; subst hz; exact ⟨s, rfl, by omega, rfl⟩⟩
    · obtain ⟨h1, h2, h3⟩ := h.src r hr
      exact ⟨h1, h2, fun z hz => by obtain ⟨k, e1, e2, e3⟩ := h3 z hz; exact ⟨k, e1, by omega, e3⟩⟩
    · obtain ⟨⟨a, h1⟩, h2, h3⟩ := h.src _ hl
      refine ⟨⟨a, ?_⟩, ?_, fun z hz => ?_⟩
      · cases l with
        | nil => simp at h1
        | cons x q => simpa using h1
      · refine List.pairwise_append.2 ⟨h2, List.pairwise_singleton _ _, fun z hz y hy => ?_⟩
        rw [List.mem_singleton] at hy
        subst hy
        obtain ⟨k, rfl, e2, _⟩ := h3 z hz
        omega
      · rcases List.mem_append.1 hz with hz | hz
        · obtain ⟨k, e1, e2, e3⟩ := h3 z hz; exact ⟨k, e1, by omega, e3⟩
        · rw [List.mem_singleton] at hz; exact ⟨s, hz, by omega, rfl⟩
  · obtain ⟨k, rfl, e2, _⟩ := (h.src r hr).2.2 z hz
    omega
  · by_cases hks : k = s
    · subst hks; exact addR_new _ _ _
    · obtain ⟨r, hr, hz⟩ := h.all k (by omega)
      exact addR_keeps hr hz
/-- two readings with one source are one -/
theorem RdsAt.one {W : Nat → List Str} {s : Nat} {rds : List Rdg} (h : RdsAt W s rds) {i j : Nat} {q r : Rdg} {z : Int} (hi : rds[i]? = some q) (hj : rds[j]? = some r) (h1 : z ∈ q.2) (h2 : z ∈ r.2) : i = j := by
  obtain ⟨k, rfl, _, e1⟩ := (h.src q (List.mem_of_getElem? hi)).2.2 z h1
  obtain ⟨k', e0, _, e2⟩ := (h.src r (List.mem_of_getElem? hj)).2.2 _ h2
  have : k = k' := by omega
  subst this
  obtain ⟨hil, rfl⟩ := List.getElem?_eq_some_iff.1 hi
  obtain ⟨hjl, rfl⟩ := List.getElem?_eq_some_iff.1 hj
  rcases Nat.lt_trichotomy i j with hlt | he | hlt
  · exact (List.pairwise_iff_getElem.1 h.neq i j hil hjl hlt (by rw [← e1, e2])).elim
  · exact he
  · exact (List.pairwise_iff_getElem.1 h.neq j i hjl hil hlt (by rw [← e2, e1])).elim
end Go.Ap


namespace Go.Ap


/-- the place has the readings of its columns -/
def hasR (x : Coll) (u : Plc) : Bool := decide (u.rds = rdsL x u.lo.toNat u.hi.toNat)
end Go.Ap


namespace Go.Ap

/-- one more place: it makes one with the last, or stands alone -/
def jstep (d : Int) (out : List (Int × Int)) (lo hi : Int) : List (Int × Int) :=
  match out.getLast? with
  | none => out ++ [(lo, hi)]
  | some q => if lo - q.2 > d then out ++ [(lo, hi)] else out.dropLast ++ [(q.1, hi)]
theorem jstep_first {d lo hi : Int} : jstep d [] lo hi = [(lo, hi)] := rfl
theorem jstep_far {d lo hi : Int} {out : List (Int × Int)} {q : Int × Int} (h : out.getLast? = some q) (hd : d < lo - q.2) : jstep d out lo hi = out ++ [(lo, hi)] := by
  unfold jstep; rw [h]; exact if_pos hd
theorem jstep_near {d lo hi : Int} {out : List (Int × Int)} {q : Int × Int} (h : out.getLast? = some q) (hd : ¬ d < lo - q.2) : jstep d out lo hi = out.dropLast ++ [(q.1, hi)] := by
  unfold jstep; rw [h]; exact if_neg hd
/-- what joining keeps: the ends ascend with more than d columns between two, each place that was lies in one -/
structure JoinAt (d n : Int) (done : List Plc) (out : List (Int × Int)) : Prop where
  asc : out.Pairwise fun u v => d < v.1 - u.2 ∧ u.2 < v.1
  rng : ∀ q ∈ out, 0 ≤ q.1 ∧ q.1 < q.2 ∧ q.2 ≤ n
  cov : ∀ u ∈ done, ∃ q ∈ out, q.1 ≤ u.lo ∧ u.hi ≤ q.2
  last : ∀ q, out.getLast? = some q → ∃ u, done.getLast? = some u ∧ u.hi = q.2
theorem JoinAt.start (d n : Int) : JoinAt d n [] [] := ⟨.nil, fun q hq => (by cases hq), fun u hu => (by cases hu), fun q hq => (by simp at hq)⟩
theorem JoinAt.step {d n : Int} {done : List Plc} {out : List (Int × Int)} {u : Plc} (h : JoinAt d n done out) (h1 : 0 ≤ u.lo) (h2 : u.lo < u.hi) (h3 : u.hi ≤ n) (h4 : ∀ v, done.getLast? = some v → v.hi < u.lo) : JoinAt d n (done ++ [u]) (jstep d out u.lo u.hi) := by
  rcases List.eq_nil_or_concat out with rfl | ⟨o, q, rfl⟩
  · rw [jstep_first]
    have hdn : ∀ v ∈ done, False := fun v hv => by obtain ⟨q, hq, _⟩ := h.cov v hv; cases hq
    refine ⟨List.pairwise_singleton _ _, fun q hq => ?_, fun v hv => ?_, fun q hq => ?_⟩
    · rw [List.mem_singleton] at hq; subst hq; exact ⟨h1, h2, h3⟩
    · rcases List.mem_append.1 hv with hv | hv
      · exact (hdn v hv).elim
      · rw [List.mem_singleton] at hv; subst hv; exact ⟨_, List.mem_singleton.2 rfl, Int.le_refl _, Int.le_refl _⟩
    · simp at hq; subst hq; exact ⟨u, by simp, rfl⟩
  · rw [List.concat_eq_append] at h ⊢
    have hq : (o ++ [q]).getLast? = some q := by simp
    obtain ⟨v, hv, hvq⟩ := h.last q hq
    have hvu := h4 v hv
    obtain ⟨a1, a2, a3⟩ := List.pairwise_append.1 h.asc
    have hqr := h.rng q (by simp)
    by_cases hf : d < u.lo - q.2
    · rw [jstep_far hq hf]
      refine ⟨?_, fun r hr => ?_, fun w hw => ?_, fun r hr => ?_⟩
      · rw [List.pairwise_append]
        refine ⟨h.asc, List.pairwise_singleton _ _, fun r hr s hs => ?_⟩
        rw [List.mem_singleton] at hs
        subst hs
        simp only
        rcases List.mem_append.1 hr with hr | hr
        · have h5 := a3 r hr q (by simp)
          exact ⟨by omega, by omega⟩
        · rw [List.mem_singleton] at hr; subst hr; exact ⟨hf, by omega⟩
      · rcases List.mem_append.1 hr with hr | hr
        · exact h.rng r hr
        · rw [List.mem_singleton] at hr; subst hr; exact ⟨h1, h2, h3⟩
      · rcases List.mem_append.1 hw with hw | hw
        · obtain ⟨r, hr, h5⟩ := h.cov w hw
          exact ⟨r, List.mem_append_left _ hr, h5⟩
        · rw [List.mem_singleton] at hw; subst hw; exact ⟨_, List.mem_append_right _ (List.mem_singleton.2 rfl), Int.le_refl _, Int.le_refl _⟩
      · simp at hr; subst hr; exact ⟨u, by simp, rfl⟩
    · rw [jstep_near hq hf, List.dropLast_concat]
      refine ⟨?_, fun r hr => ?_, fun w hw => ?_, fun r hr => ?_⟩
      · rw [List.pairwise_append]
        refine ⟨a1, List.pairwise_singleton _ _, fun r hr s hs => ?_⟩
        rw [List.mem_singleton] at hs
        subst hs
        exact a3 r hr q (by simp)
      · rcases List.mem_append.1 hr with hr | hr
        · exact h.rng r (List.mem_append_left _ hr)
        · rw [List.mem_singleton] at hr; subst hr; exact ⟨hqr.1, by simp only; omega, h3⟩
      · rcases List.mem_append.1 hw with hw | hw
        · obtain ⟨r, hr, h5, h6⟩ := h.cov w hw
          rcases List.mem_append.1 hr with hr | hr
          · exact ⟨r, List.mem_append_left _ hr, h5, h6⟩
          · rw [List.mem_singleton] at hr
            subst hr
            exact ⟨_, List.mem_append_right _ (List.mem_singleton.2 rfl), h5, by simp only; omega⟩
        · rw [List.mem_singleton] at hw; subst hw; exact ⟨_, List.mem_append_right _ (List.mem_singleton.2 rfl), by simp only; omega, Int.le_refl _⟩
      · simp at hr; subst hr; exact ⟨u, by simp, rfl⟩
end Go.Ap


namespace Go.Ap

end Go.Ap
