/-
  A map of the call's own as a function of its keys: made, stored, asked, deleted, ranged over.
-/
import Derived.Maps.Ext
import Derived.Maps.OwnSet
import Derived.RowKit
import Derived.Test.YtjmebijckcimoaaGreatDoorUa
namespace Go.Ap
open Go Go.RowKit Go.Maps Go.WideShapes
/-- the two types of a map, its keys and its elements in plain words -/
structure MapT (P : Program) (t k e : TypeId) (κ ε : Type) where
  kl : κ → Lit
  kv : κ → Value
  dl : ε → Lit
  dv : ε → Value
  zero : ε
  fit : κ → Prop
  fitE : ε → Prop
  keyed : Keyed P k
  und : P.underlying t = some (.map k e)
  inj : ∀ {s s'}, kl s = kl s' → s = s'
  key : ∀ {s}, fit s → keyOf P k (kv s) = some (kl s)
  keyI : ∀ {v l}, keyOf P k v = some l → ∃ s, v = kv s ∧ l = kl s
  elem : ∀ {v}, fitE v → plainElem (H := Unit) P e (dv v) = some (.lit (dl v), [])
  elemI : ∀ {u : Value} {z : DataW Unit × List MemPlace}, plainElem P e u = some z → ∃ v, u = dv v ∧ z = (.lit (dl v), [])
  dinj : ∀ {v v'}, dl v = dl v' → v = v'
  zeroV : ∀ w, (zeroValue e).run P w = .ok (dv zero) w
  zeroF : fitE zero
section
variable {P : Program} {t k e : TypeId} {κ ε : Type} (T : MapT P t k e κ ε)
/-- block b is a map of the call's own, of at most n entries: what it has at each key -/
def MapG (w : World) (b n : Nat) (f : κ → Option ε) : Prop :=
  ∃ D : DataW Unit, w.ownsMap P k (plainElem P e) b n D ∧ ∀ s z, D.atKey (T.kl s) z = ((f s).map fun v => DataW.lit (T.dl v)).getD z
variable {T}
variable {w w' : World} {b n : Nat} {f : κ → Option ε} {s : κ} {v : ε}
theorem MapG.made (w : World) : MapG T (w.alloc (.map #[] 0)) w.heap.size 0 (fun _ => none) :=
  ⟨_, World.ownsMap_made w P k _, fun s z => by simp [atKey_of_not_has (D := (DataW.map [] : DataW Unit)) (k := T.kl s) (by rfl) z]⟩
theorem MapG.kept {row : Option Nat} (h : MapG T w b n f) (hg : w.grownBy w' row) (hne : some b ≠ row) : MapG T w' b n f := by
  obtain ⟨D, h1, h2⟩ := h
  exact ⟨D, h1.kept hg hne, h2⟩
theorem MapG.lt (h : MapG T w b n f) : b < w.heap.size := by
  obtain ⟨D, h1, _⟩ := h
  exact h1.lt
theorem MapG.below (h : MapG T w b n f) (hb : Below w.heap.size w w') : MapG T w' b n f := by
  have hlt := h.lt
  obtain ⟨D, ⟨es, clock, h1, h2⟩, h3⟩ := h
  exact ⟨D, ⟨es, clock, (hb.block b hlt).trans h1, h2⟩, h3⟩
theorem MapG.mono {m : Nat} (h : MapG T w b n f) (hm : n ≤ m) : MapG T w b m f := by
  obtain ⟨D, h1, h2⟩ := h
  exact ⟨D, h1.mono hm, h2⟩
theorem MapG.ext {g : κ → Option ε} (h : MapG T w b n f) (hg : ∀ s, f s = g s) : MapG T w b n g := by
  obtain ⟨D, h1, h2⟩ := h
  exact ⟨D, h1, fun s z => by rw [h2, hg]⟩
/-- what a store makes of it -/
def updF [DecidableEq κ] (f : κ → Option ε) (s : κ) (v : ε) : κ → Option ε := fun x => if x = s then some v else f x
def delF [DecidableEq κ] (f : κ → Option ε) (s : κ) : κ → Option ε := fun x => if x = s then none else f x
theorem MapG.store [DecidableEq κ] (h : MapG T w b n f) (hn : n < maxLen) (hs : T.fit s) (hv : T.fitE v) :
    ∃ w', (Instr.mapUpdate t (.map (some b)) (T.kv s) (T.dv v)).run P w = .ok () w' ∧ MapG T w' b (n + 1) (updF f s v) ∧ w.grownBy w' (some b) := by
  obtain ⟨D, h1, h2⟩ := h
  have hk := T.key hs
  obtain ⟨w', r1, r2, r3⟩ := h1.update T.keyed T.und hn hk (T.elem hv)
  refine ⟨w', r1, ⟨_, r2, fun x z => ?_⟩, r3⟩
  unfold updF
  by_cases hx : x = s
  · subst hx
    rw [atKey_put_same (h1.isMap) (T.keyed.key hk), if_pos rfl]
    rfl
  · rw [atKey_put_other (fun e => hx (T.inj e)), if_neg hx]
    exact h2 x z
theorem MapG.look (h : MapG T w b n f) (hs : T.fit s) : (Instr.lookup t (.map (some b)) (T.kv s) false).run P w = .ok (T.dv ((f s).getD T.zero)) w := by
  obtain ⟨D, h1, h2⟩ := h
  obtain ⟨u, ps, hrun, hu⟩ := h1.lookup T.keyed T.und (T.zeroV w) (T.elem T.zeroF) (T.key hs)
  rw [h2] at hu
  obtain ⟨v, rfl, hz⟩ := T.elemI hu
  rw [hrun]
  simp only [Prod.mk.injEq] at hz
  cases hf : f s with
  | none =>
    rw [hf] at hz
    have := hz.1
    simp only [Option.map_none, Option.getD_none, DataW.lit.injEq] at this
    rw [T.dinj this]
    rfl
  | some x =>
    rw [hf] at hz
    have := hz.1
    simp only [Option.map_some, Option.getD_some, DataW.lit.injEq] at this
    rw [T.dinj this]
    rfl
theorem MapG.has (h : MapG T w b n f) : ∃ D : DataW Unit, w.ownsMap P k (plainElem P e) b n D ∧ (∀ s z, D.atKey (T.kl s) z = ((f s).map fun v => DataW.lit (T.dl v)).getD z) ∧ ∀ s, Maps.has D (T.kl s) = (f s).isSome := by
  obtain ⟨D, h1, h2⟩ := h
  refine ⟨D, h1, h2, fun s => ?_⟩
  cases hf : f s with
  | none => exact has_false_of_atKey fun z => by rw [h2, hf]; rfl
  | some x => exact has_true_of_atKey fun z => by rw [h2, hf]; rfl
theorem MapG.look_ok (h : MapG T w b n f) (hs : T.fit s) : (Instr.lookup t (.map (some b)) (T.kv s) true).run P w = .ok (.tuple #[T.dv ((f s).getD T.zero), .bool (f s).isSome]) w := by
  obtain ⟨D, h1, h2, h3⟩ := h.has
  obtain ⟨u, ps, hrun, hu⟩ := h1.look_ok T.keyed T.und (T.zeroV w) (T.elem T.zeroF) (T.key hs)
  rw [h2] at hu
  rw [h3] at hrun
  obtain ⟨v, rfl, hz⟩ := T.elemI hu
  rw [hrun]
  simp only [Prod.mk.injEq] at hz
  cases hf : f s with
  | none =>
    rw [hf] at hz
    have := hz.1
    simp only [Option.map_none, Option.getD_none, DataW.lit.injEq] at this
    rw [T.dinj this]
    rfl
  | some x =>
    rw [hf] at hz
    have := hz.1
    simp only [Option.map_some, Option.getD_some, DataW.lit.injEq] at this
    rw [T.dinj this]
    rfl
theorem MapG.drop [DecidableEq κ] (h : MapG T w b n f) (hs : T.fit s) (ty : TypeId) :
    ∃ w', (Builtin.delete_ #[t, k] ty #[.map (some b), T.kv s]).run P w = .ok (.tuple #[]) w' ∧ MapG T w' b n (delF f s) ∧ w.grownBy w' (some b) := by
  obtain ⟨D, h1, h2⟩ := h
  obtain ⟨w', r1, r2, r3⟩ := h1.drop T.keyed T.und (T.key hs) ty
  refine ⟨w', r1, ⟨_, r2, fun x z => ?_⟩, r3.grown⟩
  unfold delF
  by_cases hx : x = s
  · subst hx
    rw [atKey_del_same, if_pos rfl]
    rfl
  · rw [atKey_del_other (fun e => hx (T.inj e)), if_neg hx]
    exact h2 x z
/-- a range over it is under way: the keys that are still to come -/
def MapR (T : MapT P t k e κ ε) (w : World) (b r n : Nat) (f : κ → Option ε) (left : κ → Bool) (cnt : Nat) : Prop :=
  ∃ (D : DataW Unit) (lf : Lit → Bool), w.ranges P k (plainElem P e) b r n D lf cnt ∧ (∀ s z, D.atKey (T.kl s) z = ((f s).map fun v => DataW.lit (T.dl v)).getD z) ∧ ∀ s, lf (T.kl s) = left s
theorem MapR.kept {row : Option Nat} {r cnt : Nat} {left : κ → Bool} (h : MapR T w b r n f left cnt) (hg : w.grownBy w' row) (hne : some b ≠ row) (hne' : some r ≠ row) : MapR T w' b r n f left cnt := by
  obtain ⟨D, lf, h1, h2, h3⟩ := h
  exact ⟨D, lf, h1.kept hg hne hne', h2, h3⟩
theorem MapR.map {r cnt : Nat} {left : κ → Bool} (h : MapR T w b r n f left cnt) : MapG T w b n f := by
  obtain ⟨D, lf, h1, h2, h3⟩ := h
  exact ⟨D, h1.owns, h2⟩
theorem MapR.lt {r cnt : Nat} {left : κ → Bool} (h : MapR T w b r n f left cnt) : r < w.heap.size := by
  obtain ⟨D, lf, h1, h2, h3⟩ := h
  exact h1.lt
theorem MapR.left_eq {r cnt : Nat} {left : κ → Bool} (h : MapR T w b r n f left cnt) : w.rangeLeft b r = cnt := by
  obtain ⟨D, lf, h1, h2, h3⟩ := h
  exact h1.left_eq
theorem MapG.range (h : MapG T w b n f) : ∃ w' cnt, (Instr.range t (.map (some b))).run P w = .ok (.pointer (some ⟨w.heap.size, 0, none⟩)) w' ∧ MapR T w' b w.heap.size n f (fun s => (f s).isSome) cnt ∧ w.grownBy w' none ∧ w'.heap.size = w.heap.size + 1 := by
  obtain ⟨D, h1, h2, h3⟩ := h.has
  obtain ⟨w', r1, r2, r3, r4⟩ := h1.range T.keyed T.und
  exact ⟨w', _, r1, ⟨D, _, r2, h2, h3⟩, r3, r4⟩
theorem MapR.next [DecidableEq κ] {r cnt : Nat} {left : κ → Bool} (h : MapR T w b r n f left cnt) (ty : TypeId) :
    (cnt = 0 ∧ (∀ s, left s = false) ∧ (Instr.next (.pointer (some ⟨r, 0, none⟩)) false ty).run P w = .ok (.tuple #[.bool false]) w) ∨
    ∃ s v w' cnt', keyOf P k (T.kv s) = some (T.kl s) ∧ left s = true ∧ f s = some v ∧ plainElem (H := Unit) P e (T.dv v) = some (.lit (T.dl v), []) ∧ (Instr.next (.pointer (some ⟨r, 0, none⟩)) false ty).run P w = .ok (.tuple #[.bool true, T.kv s, T.dv v]) w' ∧
      MapR T w' b r n f (fun x => left x && !decide (x = s)) cnt' ∧ cnt' < cnt ∧ w.grownBy w' (some r) ∧ w'.heap.size = w.heap.size ∧ (Instr.entry (.pointer (some ⟨r, 0, none⟩))).run P w' = .ok (.tuple #[T.kv s, T.dv v]) w' := by
  obtain ⟨D, lf, h1, h2, h3⟩ := h
  rcases h1.next T.keyed ty with ⟨g1, g2, g3⟩ | ⟨key, u, kl, y, w', cnt', g1, g2, g3, g4, g5, g6, g7, g8, g9, g10⟩
  · exact .inl ⟨g1, fun s => by rw [← h3]; exact g2 _, g3⟩
  · obtain ⟨s, rfl, rfl⟩ := T.keyI g1
    obtain ⟨v, rfl, rfl⟩ := T.elemI g3
    have hf : f s = some v := by
      have := g4 (.lit (T.dl v))
      rw [h2] at this
      cases hf : f s with
      | none =>
        have e1 := g4 .nil
        rw [h2, hf] at e1
        cases e1
      | some x =>
        rw [hf] at this
        simp only [Option.map_some, Option.getD_some, DataW.lit.injEq] at this
        rw [T.dinj this]
    refine .inr ⟨s, v, w', cnt', g1, by rw [← h3]; exact g2, hf, g3, g5, ⟨D, _, g6, h2, fun x => ?_⟩, g7, g8, g9, g10⟩
    rw [h3]
    congr 1
    congr 1
    by_cases hx : x = s
    · subst hx; simp [WideAt.sameKey_self (T.keyed.key g1)]
    · simp [hx, sameKey_ne fun e => hx (T.inj e)]
end
end Go.Ap
