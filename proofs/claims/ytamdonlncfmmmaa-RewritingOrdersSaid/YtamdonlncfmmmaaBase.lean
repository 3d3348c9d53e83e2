/-
  Words on slices that lie in memory, for walks over any program: a slice reads as a list, and goes on reading so in a later world.
-/
import Derived.WalkKit
import Derived.WalkSpells
import Derived.WalkLawsBesides
import Derived.Lib.Hide
import Derived.RangeFuncNested
import Derived.RangeFuncBound
import Derived.RangeFuncCalls
import Derived.RangeFuncLeaves
import Derived.Shelf.Abstract
import Derived.Shelf.RegionOpen
import Derived.OwnWalkIn
import Derived.TacticsInMore
import Derived.LoopNIn
import Derived.LoopIn
import Derived.Deep.QuietTactic
import Derived.BigQuiet
import Derived.Laws.EntriesVeiled
namespace Go.Ap
open Go Go.RowKit

/-- the element at a place, under a name that the walk leaves alone -/
def nth (xs : List Int) (k : Nat) : Int := xs.getD k 0
theorem nth_eq {xs : List Int} {k : Nat} (h : k < xs.length) : nth xs k = xs[k] := by simp [nth, h]
theorem nth_mem {xs : List Int} {k : Nat} (h : k < xs.length) : nth xs k ∈ xs := by rw [nth_eq h]; exact List.getElem_mem h

/-- the int fits into 64 bits -/
def I64 (x : Int) : Prop := -9223372036854775808 ≤ x ∧ x ≤ 9223372036854775807

/-- a slice value (its address, its length) reads as a list, each element by a relation on its one cell -/
structure Sl {α : Type} (R : World → Value → α → Prop) (w : World) (a : Option Addr) (n : Nat) (xs : List α) : Prop where
  len : xs.length = n
  small : n ≤ 4611686018427387903
  cells : ∀ (k : Nat) (x : α), xs[k]? = some x → ∃ b off v, a = some ⟨b, off, none⟩ ∧ w.cell? ⟨b, off + k, none⟩ = some v ∧ R w v x

section
variable {α : Type} {R : World → Value → α → Prop} {w w' : World} {a : Option Addr} {n : Nat} {xs : List α}
theorem Sl.nil (w : World) (a : Option Addr) : Sl R w a 0 [] := ⟨rfl, by omega, fun k x h => by simp at h⟩
theorem Sl.zero (h : Sl R w a 0 xs) : xs = [] := List.eq_nil_of_length_eq_zero h.len
theorem Sl.weak {R' : World → Value → α → Prop} (h : Sl R w a n xs) (hR : ∀ v x, x ∈ xs → R w v x → R' w v x) : Sl R' w a n xs :=
  ⟨h.len, h.small, fun k x hk => by
    obtain ⟨b, off, v, ha, hc, hr⟩ := h.cells k x hk
    exact ⟨b, off, v, ha, hc, hR v x (List.mem_of_getElem? hk) hr⟩⟩
theorem Sl.mono {B : Nat} (h : Sl R w a n xs) (hB : w.heap.size ≤ B) (hb : Below B w w') (hR : ∀ v x, R w v x → R w' v x) : Sl R w' a n xs :=
  ⟨h.len, h.small, fun k x hk => by
    obtain ⟨b, off, v, ha, hc, hr⟩ := h.cells k x hk
    refine ⟨b, off, v, ha, ?_, hR v x hr⟩
    rw [hb.cell (p := ⟨b, off + k, none⟩) (Nat.lt_of_lt_of_le (World.block_lt_of_cell? w _ hc) hB)]
    exact hc⟩
theorem Sl.at (h : Sl R w a n xs) {k : Nat} (hk : k < n) : ∃ x b off v, xs[k]? = some x ∧ a = some ⟨b, off, none⟩ ∧ w.cell? ⟨b, off + k, none⟩ = some v ∧ R w v x := by
  have hx : xs[k]? = some (xs[k]'(by rw [h.len]; exact hk)) := List.getElem?_eq_getElem _
  obtain ⟨b, off, v, ha, hc, hr⟩ := h.cells k _ hx
  exact ⟨_, b, off, v, hx, ha, hc, hr⟩
end

/-- a slice of ints -/
def IntR (_ : World) (v : Value) (x : Int) : Prop := v = .int .i64 x ∧ I64 x
abbrev Ints := Sl IntR

theorem IntR.mono {w w' : World} {v : Value} {x : Int} (h : IntR w v x) : IntR w' v x := h

theorem Ints.mono {w w' : World} {B : Nat} {a : Option Addr} {n : Nat} {xs : List Int} (h : Ints w a n xs) (hB : w.heap.size ≤ B) (hb : Below B w w') : Ints w' a n xs :=
  Sl.mono h hB hb (fun _ _ => IntR.mono)
theorem Ints.drewN {w : World} {q : Nat} {a : Option Addr} {n : Nat} {xs : List Int} (h : Ints w a n xs) : Ints (w.drewN q) a n xs :=
  ⟨h.len, h.small, h.cells⟩
theorem Ints.at {w : World} {a : Option Addr} {n : Nat} {xs : List Int} (h : Ints w a n xs) (hk : 0 < n) :
    ∃ b off, a = some ⟨b, off, none⟩ ∧ ∀ j, j < n → w.cell? ⟨b, off + j, none⟩ = some (.int .i64 (nth xs j)) := by
  obtain ⟨x, b, off, v, _, ha, _, _⟩ := Sl.at h hk
  refine ⟨b, off, ha, fun j hj => ?_⟩
  obtain ⟨y, b', off', v', hy, ha', hc, rfl, _⟩ := Sl.at h hj
  rw [ha] at ha'
  cases ha'
  rw [hc]
  simp [nth, hy]
theorem Ints.wf {w : World} {a : Option Addr} {n : Nat} {xs : List Int} (h : Ints w a n xs) : ∀ x ∈ xs, I64 x := by
  intro x hx
  obtain ⟨k, hk⟩ := List.getElem?_of_mem hx
  obtain ⟨_, _, _, _, _, _, hr⟩ := h.cells k x hk
  exact hr
theorem Ints.i64 {w : World} {a : Option Addr} {n : Nat} {xs : List Int} (h : Ints w a n xs) (k : Nat) : I64 (nth xs k) := by
  by_cases hk : k < xs.length
  · exact Ints.wf h _ (nth_mem hk)
  · unfold nth
    rw [List.getD_eq_getElem?_getD, List.getElem?_eq_none (by omega)]; exact ⟨by decide, by decide⟩

/-- a slice of slices of ints -/
def RowR (w : World) (v : Value) (xs : List Int) : Prop := ∃ a n c, v = .slice a n c ∧ Ints w a n xs
abbrev Rows2 := Sl RowR
theorem RowR.mono {w w' : World} {B : Nat} {v : Value} {xs : List Int} (h : RowR w v xs) (hB : w.heap.size ≤ B) (hb : Below B w w') : RowR w' v xs := by
  obtain ⟨a, n, c, rfl, h⟩ := h
  exact ⟨a, n, c, rfl, Ints.mono h hB hb⟩
theorem Rows2.mono {w w' : World} {B : Nat} {a : Option Addr} {n : Nat} {xs : List (List Int)} (h : Rows2 w a n xs) (hB : w.heap.size ≤ B) (hb : Below B w w') : Rows2 w' a n xs :=
  Sl.mono h hB hb (fun _ _ hr => RowR.mono hr hB hb)
theorem RowR.drewN {w : World} {q : Nat} {v : Value} {xs : List Int} (h : RowR w v xs) : RowR (w.drewN q) v xs := by
  obtain ⟨a, n, c, rfl, h⟩ := h
  exact ⟨a, n, c, rfl, Ints.drewN h⟩
theorem Rows2.drewN {w : World} {q : Nat} {a : Option Addr} {n : Nat} {xs : List (List Int)} (h : Rows2 w a n xs) : Rows2 (w.drewN q) a n xs :=
  ⟨h.len, h.small, fun k x hk => by
    obtain ⟨b, off, v, ha, hc, hr⟩ := h.cells k x hk
    exact ⟨b, off, v, ha, hc, hr.drewN⟩⟩

theorem ret_i {k : IntKind} {x y : Int} (h : x = y) : Ending.returned (.int k x) = .returned (.int k y) := by rw [h]
theorem ret_b {x y : Bool} (h : x = y) : Ending.returned (.bool x) = .returned (.bool y) := by rw [h]
theorem drewN2 (w : World) (p q : Nat) : (w.drewN p).drewN q = w.drewN (p + q) := by simp [World.drewN, Nat.add_assoc]
theorem drewN0 (w : World) : w = w.drewN 0 := rfl
theorem drewN_ex (w : World) (p q : Nat) : ∃ r, (w.drewN p).drewN q = w.drewN r := ⟨_, drewN2 w p q⟩

/-- the first place from k on at which a test says yes, as the library's IndexFunc gives it -/
def idxG (p : Nat → Bool) : Nat → Nat → Int
  | 0, _ => -1
  | f + 1, k => if p k = true then (k : Int) else idxG p f (k + 1)
def pAt {α : Type} (p : α → Bool) (xs : List α) (k : Nat) : Bool := (xs[k]?).elim false p
def idxF {α : Type} (p : α → Bool) (xs : List α) : Int := idxG (pAt p xs) xs.length 0
theorem idxG_nonneg (p : Nat → Bool) : ∀ f k, decide (0 ≤ idxG p f k) = (List.range' k f).any p
  | 0, k => by simp [idxG]
  | f + 1, k => by
    rw [idxG, List.range'_succ, List.any_cons]
    by_cases h : p k = true
    · rw [if_pos h, h]; simp
    · rw [if_neg h, idxG_nonneg p f (k + 1)]
      simp at h
      rw [h, Bool.false_or]
theorem any_pAt {α : Type} (p : α → Bool) : ∀ (xs ys : List α), (List.range' xs.length ys.length).any (pAt p (xs ++ ys)) = ys.any p
  | xs, [] => by simp
  | xs, y :: ys => by
    have ih := any_pAt p (xs ++ [y]) ys
    rw [List.length_cons, List.range'_succ, List.any_cons, List.any_cons]
    simp only [List.append_assoc, List.singleton_append, List.length_append, List.length_singleton] at ih
    rw [ih]
    simp [pAt]
theorem idxF_any {α : Type} (p : α → Bool) (xs : List α) : decide (0 ≤ idxF p xs) = xs.any p := by
  unfold idxF
  rw [idxG_nonneg]
  exact any_pAt p [] xs
theorem idxG_yes {p : Nat → Bool} {f k : Nat} (h : p k = true) : idxG p (f + 1) k = k := by rw [idxG, if_pos h]
theorem idxG_no {p : Nat → Bool} {f k : Nat} (h : p k = false) : idxG p (f + 1) k = idxG p f (k + 1) := by rw [idxG, if_neg (by simp [h])]
theorem idxG_hi (p : Nat → Bool) : ∀ f k, idxG p f k < ((k + f : Nat) : Int) + 1 ∧ -1 ≤ idxG p f k
  | 0, k => by simp [idxG]; omega
  | f + 1, k => by
    rw [idxG]
    have := idxG_hi p f (k + 1)
    split <;> omega

/-- a function value of one int that answers a bool, in whatever world has come of w by growth alone -/
structure Fn1 (P : Program) (g : Nat) (cap : Array Value) (p : Int → Bool) (w : World) : Prop where
  enters : ∀ args w, (callFunc g args).run P w = .ok (.enter g args) w
  calls : ∀ w', Below w.heap.size w w' → ∀ k, I64 k → Calls P g (#[.int .i64 k] ++ cap) w' fun e w'' => e = .returned (.bool (p k)) ∧ ∃ q, w'' = w'.drewN q
theorem Fn1.later {P : Program} {g : Nat} {cap : Array Value} {p : Int → Bool} {w w' : World} (h : Fn1 P g cap p w) (hb : Below w.heap.size w w') : Fn1 P g cap p w' :=
  ⟨h.enters, fun w'' h'' k hk => h.calls w'' (hb.trans (h''.mono hb.size)) k hk⟩

/-- a set: ascending, from 0 to 63 -/
def SetL (xs : List Int) : Prop := xs.Pairwise (· < ·) ∧ ∀ x ∈ xs, 0 ≤ x ∧ x ≤ 63
theorem SetL.le {xs : List Int} (h : SetL xs) : xs.Pairwise (· ≤ ·) := h.1.imp (fun h => Int.le_of_lt h)

theorem cell_fresh {w : World} {b i : Nat} {c : Array Value} {t : TypeId} {v : Value} (h : b = w.heap.size) (hc : c[i]? = some v) : (w.alloc (.cells c t)).cell? ⟨b, i, none⟩ = some v := by
  subst h; rw [World.cell?_alloc_new]; exact hc
theorem bstep {w w1 w2 : World} (h : Below w.heap.size w w1) (k : Below w1.heap.size w1 w2) : Below w.heap.size w w2 := h.trans (k.mono h.size)
theorem bdrewN (w : World) (q : Nat) : Below w.heap.size w (w.drewN q) := ⟨rfl, rfl, rfl, Nat.le_refl _, fun _ _ => rfl⟩

theorem ints_new {w : World} {c : Array Value} {t : TypeId} {b n : Nat} (xs : List Int) (hb : b = w.heap.size) (hc : c = (xs.map (Value.int .i64)).toArray) (hn : xs.length = n) (hs : n ≤ 4611686018427387903)
    (hx : (xs.all fun x => decide (-9223372036854775808 ≤ x) && decide (x ≤ 9223372036854775807)) = true) : Ints (w.alloc (.cells c t)) (some ⟨b, 0, none⟩) n xs := by
  refine ⟨hn, hs, fun k x hk => ⟨b, 0, .int .i64 x, rfl, cell_fresh hb (by rw [hc]; simp [hk]), rfl, ?_⟩⟩
  have := List.all_eq_true.1 hx x (List.mem_of_getElem? hk)
  simpa [I64] using this

theorem heap_old {w : World} {o o' : Obj} {b : Nat} (h : w.heap[b]? = some o) : (w.alloc o').heap[b]? = some o :=
  (Below.heap_alloc w o' b (Array.getElem?_eq_some_iff.1 h).1).trans h
theorem heap_fresh {w : World} {o : Obj} {b : Nat} (h : b = w.heap.size) : (w.alloc o).heap[b]? = some o := by
  subst h; exact World.alloc_heap_new w o
theorem ints_at {w : World} {c : Array Value} {t : TypeId} {f : Nat × Nat} {b n : Nat} (xs : List Int) (hb : w.heap[b]? = some (.cells c t f)) (hc : c = (xs.map (Value.int .i64)).toArray) (hn : xs.length = n) (hs : n ≤ 4611686018427387903)
    (hx : (xs.all fun x => decide (-9223372036854775808 ≤ x) && decide (x ≤ 9223372036854775807)) = true) : Ints w (some ⟨b, 0, none⟩) n xs := by
  refine ⟨hn, hs, fun k x hk => ⟨b, 0, .int .i64 x, rfl, ?_, rfl, ?_⟩⟩
  · simp [World.cell?, hb, hc, hk]
  · have := List.all_eq_true.1 hx x (List.mem_of_getElem? hk)
    simpa [I64] using this
theorem rowr_at {w : World} {c : Array Value} {t : TypeId} {f : Nat × Nat} {b n d : Nat} (xs : List Int) (hb : w.heap[b]? = some (.cells c t f)) (hc : c = (xs.map (Value.int .i64)).toArray) (hn : xs.length = n) (hs : n ≤ 4611686018427387903)
    (hx : (xs.all fun x => decide (-9223372036854775808 ≤ x) && decide (x ≤ 9223372036854775807)) = true) : RowR w (.slice (some ⟨b, 0, none⟩) n d) xs :=
  ⟨_, _, _, rfl, ints_at xs hb hc hn hs hx⟩

/-- values that read as lists, one by one -/
def AllR (w : World) : List Value → List (List Int) → Prop
  | [], [] => True
  | v :: vs, x :: xs => RowR w v x ∧ AllR w vs xs
  | _, _ => False
theorem AllR.at {w : World} : ∀ {vs : List Value} {xss : List (List Int)}, AllR w vs xss → ∀ (k : Nat) (xs : List Int), xss[k]? = some xs → ∃ v, vs[k]? = some v ∧ RowR w v xs
  | [], [], _, k, xs, h => by simp at h
  | v :: vs, x :: xss, ⟨h1, h2⟩, 0, xs, h => by simp at h; subst h; exact ⟨v, rfl, h1⟩
  | v :: vs, x :: xss, ⟨h1, h2⟩, k + 1, xs, h => by simp at h; obtain ⟨v', hv, hr⟩ := h2.at k xs h; exact ⟨v', by simpa using hv, hr⟩
theorem rows_new {w : World} {c : Array Value} {t : TypeId} {b n : Nat} (xss : List (List Int)) (hb : b = w.heap.size) (hc : AllR w c.toList xss) (hn : xss.length = n) (hs : n ≤ 4611686018427387903) :
    Rows2 (w.alloc (.cells c t)) (some ⟨b, 0, none⟩) n xss := by
  refine ⟨hn, hs, fun k xs hk => ?_⟩
  obtain ⟨v, hv, hr⟩ := hc.at k xs hk
  exact ⟨b, 0, v, rfl, cell_fresh hb (by simpa using hv), hr.mono (Nat.le_refl _) ((Below.refl _ w).alloc (Nat.le_refl _) _)⟩
theorem balloc (w : World) (o : Obj) : Below w.heap.size w (w.alloc o) := (Below.refl _ w).alloc (Nat.le_refl _) _

/-- what the call owns reads as a list -/
theorem ints_of_owns {w : World} {base : Nat} {e : TypeId} {v : Value} {n : Nat} {xs : List Int} (h : w.ownsRow base e 1 v n (xs.map (Value.int .i64))) (hx : ∀ x ∈ xs, I64 x) (hn : n ≤ 4611686018427387903) :
    ∃ a c, v = .slice a n c ∧ Ints w a n xs := by
  have hl : xs.length = n := by have := h.1; simpa using this
  rcases h.2 with ⟨rfl, rfl⟩ | ⟨g, cap, cur, rfl, _, _, _, _, _, _⟩
  · have : xs = [] := List.eq_nil_of_length_eq_zero hl
    subst this
    exact ⟨none, 0, rfl, Sl.nil _ _⟩
  · refine ⟨_, cap, rfl, hl, hn, fun k x hk => ?_⟩
    have hc := h.cells (g := g) rfl k (.int .i64 x) (by simp [hk])
    have hadd : (⟨g, 0, none⟩ : Addr).add k = ⟨g, 0 + k, none⟩ := by unfold Addr.add; split <;> simp_all
    rw [hadd] at hc
    exact ⟨g, 0, _, rfl, hc, rfl, hx x (List.mem_of_getElem? hk)⟩

end Go.Ap
