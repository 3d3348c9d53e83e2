/-
  A map of the call's own whose elements are values as they are (slices): what it has at each key; made, stored, asked, ranged over. Keys: pairs (structs of two fields).
-/
import Derived.Maps.Ext
import Derived.Maps.OwnSet
import Derived.Sort.MapsRangeIn
import Derived.RowKit
import Derived.DeepKeys4
import Derived.Test.YtngdmpkoedpgdaaGreatDoorOi
namespace Go.Ap
open Go Go.RowKit Go.Maps Go.WideShapes
/-- how an element reads: as itself -/
def heldR (v : Value) : Option (DataW Value × List MemPlace) := some (.held v, [])
structure MapV (P : Program) (t k e : TypeId) (κ : Type) where
  kv : κ → Value
  fit : κ → Prop
  keyed : Keyed P k
  und : P.underlying t = some (.map k e)
  key : ∀ {s}, fit s → ∃ x, keyOf P k (kv s) = some (.string x)
  keyI : ∀ {v l}, keyOf P k v = some l → ∃ s, fit s ∧ v = kv s
  kinj : ∀ {s s'}, kv s = kv s' → s = s'
  zero : Value
  zeroV : ∀ w, (zeroValue e).run P w = .ok zero w
section
variable {P : Program} {t k e : TypeId} {κ : Type}
def MapV.kl (T : MapV P t k e κ) (s : κ) : Lit := (keyOf P k (T.kv s)).getD (.bool false)
theorem MapV.kl_of (T : MapV P t k e κ) {s : κ} (h : T.fit s) : keyOf P k (T.kv s) = some (T.kl s) := by
  obtain ⟨x, hx⟩ := T.key h
  unfold MapV.kl
  rw [hx]
  rfl
theorem MapV.inj (T : MapV P t k e κ) {s x : κ} (h : T.fit s) (he : T.kl x = T.kl s) : x = s := by
  obtain ⟨y, hy⟩ := T.key h
  have h1 : T.kl s = .string y := by unfold MapV.kl; rw [hy]; rfl
  rw [h1] at he
  cases hx : keyOf P k (T.kv x) with
  | none =>
    unfold MapV.kl at he
    rw [hx] at he
    cases he
  | some l =>
    have h2 : l = .string y := by unfold MapV.kl at he; rw [hx] at he; exact he
    subst h2
    exact T.kinj (T.keyed.inj hx hy)
variable (T : MapV P t k e κ)
/-- block b is a map of the call's own, of at most n entries: the value that it has at each key -/
def MapH (w : World) (b n : Nat) (f : κ → Option Value) : Prop :=
  ∃ D : DataW Value, w.ownsMap P k heldR b n D ∧ ∀ s z, D.atKey (T.kl s) z = ((f s).map fun v => DataW.held v).getD z
variable {T}
variable {w w' : World} {b n : Nat} {f : κ → Option Value} {s : κ} {v : Value}
theorem MapH.made (w : World) : MapH T (w.alloc (.map #[] 0)) w.heap.size 0 (fun _ => none) :=
  ⟨_, World.ownsMap_made w P k _, fun s z => by simp [atKey_of_not_has (D := (DataW.map [] : DataW Value)) (k := T.kl s) (by rfl) z]⟩
theorem MapH.kept {row : Option Nat} (h : MapH T w b n f) (hg : w.grownBy w' row) (hne : some b ≠ row) : MapH T w' b n f := by
  obtain ⟨D, h1, h2⟩ := h
  exact ⟨D, h1.kept hg hne, h2⟩
theorem MapH.lt (h : MapH T w b n f) : b < w.heap.size := by
  obtain ⟨D, h1, _⟩ := h
  exact h1.lt
theorem MapH.below (h : MapH T w b n f) (hb : Below w.heap.size w w') : MapH T w' b n f := by
  have hlt := h.lt
  obtain ⟨D, ⟨es, clock, h1, h2⟩, h3⟩ := h
  exact ⟨D, ⟨es, clock, (hb.block b hlt).trans h1, h2⟩, h3⟩
theorem MapH.mono {m : Nat} (h : MapH T w b n f) (hm : n ≤ m) : MapH T w b m f := by
  obtain ⟨D, h1, h2⟩ := h
  exact ⟨D, h1.mono hm, h2⟩
theorem MapH.ext {g : κ → Option Value} (h : MapH T w b n f) (hg : ∀ s, f s = g s) : MapH T w b n g := by
  obtain ⟨D, h1, h2⟩ := h
  exact ⟨D, h1, fun s z => by rw [h2, hg]⟩
def updV [DecidableEq κ] (f : κ → Option Value) (s : κ) (v : Value) : κ → Option Value := fun x => if x = s then some v else f x
theorem MapH.store [DecidableEq κ] (h : MapH T w b n f) (hn : n < maxLen) (hs : T.fit s) (v : Value) :
    ∃ w', (Instr.mapUpdate t (.map (some b)) (T.kv s) v).run P w = .ok () w' ∧ MapH T w' b (n + 1) (updV f s v) ∧ w.grownBy w' (some b) := by
  obtain ⟨D, h1, h2⟩ := h
  have hk := T.kl_of hs
  obtain ⟨w', r1, r2, r3⟩ := h1.update T.keyed T.und hn hk (d := .held v) (ps := []) rfl
  refine ⟨w', r1, ⟨_, r2, fun x z => ?_⟩, r3⟩
  unfold updV
  by_cases hx : x = s
  · subst hx
    rw [atKey_put_same (h1.isMap) (T.keyed.key hk), if_pos rfl]
    rfl
  · rw [atKey_put_other (fun e => hx (T.inj hs e)), if_neg hx]
    exact h2 x z
theorem heldR_inv {u : Value} {z : DataW Value × List MemPlace} (h : heldR u = some z) : z = (.held u, []) := (Option.some.inj h).symm
theorem MapH.look (h : MapH T w b n f) (hs : T.fit s) : (Instr.lookup t (.map (some b)) (T.kv s) false).run P w = .ok ((f s).getD T.zero) w := by
  obtain ⟨D, h1, h2⟩ := h
  obtain ⟨u, ps, hrun, hu⟩ := h1.lookup T.keyed T.und (T.zeroV w) (zd := .held T.zero) (zp := []) rfl (T.kl_of hs)
  rw [h2] at hu
  have hz := heldR_inv hu
  rw [hrun]
  simp only [Prod.mk.injEq] at hz
  cases hf : f s with
  | none =>
    rw [hf] at hz
    have := hz.1
    simp only [Option.map_none, Option.getD_none, DataW.held.injEq] at this
    rw [← this]
    rfl
  | some x =>
    rw [hf] at hz
    have := hz.1
    simp only [Option.map_some, Option.getD_some, DataW.held.injEq] at this
    rw [← this]
    rfl
theorem MapH.of_block (h : MapH T w b n f) (hb : w'.heap[b]? = w.heap[b]?) : MapH T w' b n f := by
  obtain ⟨D, ⟨es, clock, h1, h2⟩, h3⟩ := h
  exact ⟨D, ⟨es, clock, hb.trans h1, h2⟩, h3⟩
theorem modify_push {α : Type} (es : Array α) (x : α) (g : α → α) : (es.push x).modify es.size g = es.push (g x) := by
  apply Array.ext_getElem?
  intro k
  rw [Array.getElem?_modify, Array.getElem?_push, Array.getElem?_push]
  by_cases hk : k = es.size
  · subst hk
    simp
  · rw [if_neg hk, if_neg (fun e => hk e.symm), if_neg hk]
theorem modify_twice {α : Type} (es : Array α) (j : Nat) (g g' : α → α) : (es.modify j g).modify j g' = es.modify j (fun x => g' (g x)) := by
  apply Array.ext_getElem?
  intro k
  rw [Array.getElem?_modify, Array.getElem?_modify, Array.getElem?_modify]
  by_cases hk : j = k
  · subst hk
    cases es[j]? <;> simp
  · simp [hk]
theorem stamp_idx {es : Array MapEntry} {i : Nat} {e : MapEntry} (he : es[i]? = some e) (hu : ∀ j x, j < i → es[j]? = some x → x.born ≠ e.born) : es.findIdx? (fun x => (x.born : Int) == (e.born : Int)) = some i := by
  obtain ⟨hi, he'⟩ := Array.getElem?_eq_some_iff.1 he
  rw [Array.findIdx?_eq_some_iff_getElem]
  refine ⟨hi, by rw [he']; simp, fun j hj => ?_⟩
  have := hu j es[j] hj (Array.getElem?_eq_getElem _)
  simp only [Bool.not_eq_true, beq_eq_false_iff_ne]
  omega
/-- 'm[k] = append(m[k], ..)': the entry first, the store behind it -/
theorem MapH.entry [DecidableEq κ] (h : MapH T w b n f) (hn : n < maxLen) (hs : T.fit s) : ∃ w1 st o1, (Instr.mapEntry t (.map (some b)) (T.kv s)).run P w = .ok (.tuple #[(f s).getD T.zero, st]) w1 ∧ w.grownBy w1 (some b) ∧
    w1.heap[b]? = some o1 ∧ o1.isCells = false ∧ ∀ w2 v, w2.heap[b]? = some o1 → ∃ w3, (Instr.entryStore t (.map (some b)) st v).run P w2 = .ok () w3 ∧ MapH T w3 b (n + 1) (updV f s v) ∧ w2.grownBy w3 (some b) := by
  have hlook := h.look hs
  have hst := fun v => h.store hn hs v
  obtain ⟨D, ⟨es, clock, hb, F, hsz, hD⟩, h2⟩ := h
  have hkey := T.kl_of hs
  have hz := T.zeroV w
  rcases T.keyed.find w hkey es.toList F.keys with ⟨g1, g2⟩ | ⟨j, e0, g1, g2, g3⟩
  · have hf : (f s).getD T.zero = T.zero := by
      have := hlook
      simp [Instr.lookup, run_underlying T.und, MapKept.run_getObj_map hb, T.keyed.check w _ hkey, g1, hz, Result.andThen] at this
      exact this.symm
    obtain ⟨hst1, hst2, hst3⟩ := F.stamped
    refine ⟨ChangeMaps.setBlock w b (.map (es.push ⟨T.kv s, T.zero, clock⟩) (clock + 1)), goInt clock, .map (es.push ⟨T.kv s, T.zero, clock⟩) (clock + 1), ?_, ⟨rfl, rfl, rfl, by simp [ChangeMaps.setBlock], fun i _ hi => ChangeMaps.heap_setBlock_other hb _ (fun e => hi (by rw [e]))⟩, ChangeMaps.heap_setBlock_same hb _, rfl, fun w2 v hw2 => ?_⟩
    · simp [Instr.mapEntry, run_underlying T.und, MapKept.run_getObj_map hb, T.keyed.check w _ hkey, g1, hz, MapKept.run_setObj_map _ hb, Result.andThen, ChangeMaps.setBlock, hf]
    · obtain ⟨w', r1, r2, r3⟩ := hst v
      simp [Instr.mapUpdate, run_underlying T.und, MapKept.run_getObj_map hb, T.keyed.check w false hkey, g1, MapKept.run_setObj_map _ hb, Result.andThen] at r1
      subst r1
      have hidx : (es.push ⟨T.kv s, T.zero, clock⟩).findIdx? (fun e => (e.born : Int) == (clock : Int)) = some es.size := stamp_idx (e := ⟨T.kv s, T.zero, clock⟩) (by simp) (fun j x hj hx => by
        rw [Array.getElem?_push, if_neg (by omega)] at hx
        have := hst1 x (by simpa using Array.mem_of_getElem? hx)
        simp only
        omega)
      refine ⟨ChangeMaps.setBlock w2 b (.map (es.push ⟨T.kv s, v, clock⟩) (clock + 1)), ?_, r2.of_block ?_, ⟨rfl, rfl, rfl, by simp [ChangeMaps.setBlock], fun i _ hi => ChangeMaps.heap_setBlock_other hw2 _ (fun e => hi (by rw [e]))⟩⟩
      · simp [Instr.entryStore, MapKept.run_getObj_map hw2, goInt, asInt, asIntOf, hidx, MapKept.run_setObj_map _ hw2, Result.andThen, ChangeMaps.setBlock, modify_push]
      · rw [ChangeMaps.heap_setBlock_same hw2]
        exact (ChangeMaps.heap_setBlock_same hb _).symm
  · have hj : es[j]? = some e0 := by simpa using g2
    have hf : (f s).getD T.zero = e0.val := by
      have := hlook
      simp [Instr.lookup, run_underlying T.und, MapKept.run_getObj_map hb, T.keyed.check w _ hkey, g1, Result.andThen] at this
      exact this.symm
    obtain ⟨hst1, hst2, hst3⟩ := F.stamped
    refine ⟨ChangeMaps.setBlock w b (.map (es.modify j fun e => { e with key := T.kv s }) clock), goInt e0.born, .map (es.modify j fun e => { e with key := T.kv s }) clock, ?_, ⟨rfl, rfl, rfl, by simp [ChangeMaps.setBlock], fun i _ hi => ChangeMaps.heap_setBlock_other hb _ (fun e => hi (by rw [e]))⟩, ChangeMaps.heap_setBlock_same hb _, rfl, fun w2 v hw2 => ?_⟩
    · simp [Instr.mapEntry, run_underlying T.und, MapKept.run_getObj_map hb, T.keyed.check w _ hkey, g1, hj, g3, T.keyed.stays w hkey, MapKept.run_setObj_map _ hb, Result.andThen, ChangeMaps.setBlock, hf]
    · obtain ⟨w', r1, r2, r3⟩ := hst v
      simp [Instr.mapUpdate, run_underlying T.und, MapKept.run_getObj_map hb, T.keyed.check w false hkey, g1, hj, g3, T.keyed.stays w hkey, MapKept.run_setObj_map _ hb, Result.andThen] at r1
      subst r1
      have hidx : (es.modify j fun e => { e with key := T.kv s }).findIdx? (fun e => (e.born : Int) == (e0.born : Int)) = some j := stamp_idx (e := { e0 with key := T.kv s }) (by rw [Array.getElem?_modify, if_pos rfl, hj]; rfl) (fun i x hi hx => by
        rw [Array.getElem?_modify, if_neg (by omega)] at hx
        intro he
        simp only at he
        have hil : i < es.toList.length := by simpa using (Array.getElem?_eq_some_iff.1 hx).1
        have hjl : j < es.toList.length := by simpa using (Array.getElem?_eq_some_iff.1 hj).1
        have := List.pairwise_iff_getElem.1 hst2 i j (by simpa using hil) (by simpa using hjl) hi
        simp only [List.getElem_map, Array.getElem_toList] at this
        obtain ⟨_, hx'⟩ := Array.getElem?_eq_some_iff.1 hx
        obtain ⟨_, hj'⟩ := Array.getElem?_eq_some_iff.1 hj
        rw [hx', hj'] at this
        exact this he)
      refine ⟨ChangeMaps.setBlock w2 b (.map (es.modify j fun e => { e with key := T.kv s, val := v }) clock), ?_, r2.of_block ?_, ⟨rfl, rfl, rfl, by simp [ChangeMaps.setBlock], fun i _ hi => ChangeMaps.heap_setBlock_other hw2 _ (fun e => hi (by rw [e]))⟩⟩
      · simp [Instr.entryStore, MapKept.run_getObj_map hw2, goInt, asInt, asIntOf, hidx, MapKept.run_setObj_map _ hw2, Result.andThen, ChangeMaps.setBlock, modify_twice]
      · rw [ChangeMaps.heap_setBlock_same hw2]
        exact (ChangeMaps.heap_setBlock_same hb _).symm
theorem MapH.has (h : MapH T w b n f) : ∃ D : DataW Value, w.ownsMap P k heldR b n D ∧ (∀ s z, D.atKey (T.kl s) z = ((f s).map fun v => DataW.held v).getD z) ∧ ∀ s, Maps.has D (T.kl s) = (f s).isSome := by
  obtain ⟨D, h1, h2⟩ := h
  refine ⟨D, h1, h2, fun s => ?_⟩
  cases hf : f s with
  | none => exact has_false_of_atKey fun z => by rw [h2, hf]; rfl
  | some x => exact has_true_of_atKey fun z => by rw [h2, hf]; rfl
/-- a range over it is under way: the keys that are still to come -/
def MapW (T : MapV P t k e κ) (w : World) (b r n : Nat) (f : κ → Option Value) (left : κ → Bool) (cnt : Nat) : Prop :=
  ∃ (D : DataW Value) (lf : Lit → Bool), w.ranges P k heldR b r n D lf cnt ∧ (∀ s z, D.atKey (T.kl s) z = ((f s).map fun v => DataW.held v).getD z) ∧ ∀ s, lf (T.kl s) = left s
theorem MapW.kept {row : Option Nat} {r cnt : Nat} {left : κ → Bool} (h : MapW T w b r n f left cnt) (hg : w.grownBy w' row) (hne : some b ≠ row) (hne' : some r ≠ row) : MapW T w' b r n f left cnt := by
  obtain ⟨D, lf, h1, h2, h3⟩ := h
  exact ⟨D, lf, h1.kept hg hne hne', h2, h3⟩
theorem MapW.map {r cnt : Nat} {left : κ → Bool} (h : MapW T w b r n f left cnt) : MapH T w b n f := by
  obtain ⟨D, lf, h1, h2, h3⟩ := h
  exact ⟨D, h1.owns, h2⟩
theorem MapW.lt {r cnt : Nat} {left : κ → Bool} (h : MapW T w b r n f left cnt) : r < w.heap.size := by
  obtain ⟨D, lf, h1, h2, h3⟩ := h
  exact h1.lt
theorem MapW.left_eq {r cnt : Nat} {left : κ → Bool} (h : MapW T w b r n f left cnt) : w.rangeLeft b r = cnt := by
  obtain ⟨D, lf, h1, h2, h3⟩ := h
  exact h1.left_eq
theorem MapH.range (h : MapH T w b n f) : ∃ w' cnt, (Instr.range t (.map (some b))).run P w = .ok (.pointer (some ⟨w.heap.size, 0, none⟩)) w' ∧ MapW T w' b w.heap.size n f (fun s => (f s).isSome) cnt ∧ w.grownBy w' none ∧ w'.heap.size = w.heap.size + 1 ∧ cnt ≤ n := by
  obtain ⟨D, h1, h2, h3⟩ := h.has
  obtain ⟨w', r1, r2, r3, r4⟩ := h1.range T.keyed T.und
  exact ⟨w', _, r1, ⟨D, _, r2, h2, h3⟩, r3, r4, h1.size_le⟩
theorem MapW.next [DecidableEq κ] {r cnt : Nat} {left : κ → Bool} (h : MapW T w b r n f left cnt) (ty : TypeId) :
    (cnt = 0 ∧ (∀ s, left s = false) ∧ (Instr.next (.pointer (some ⟨r, 0, none⟩)) false ty).run P w = .ok (.tuple #[.bool false]) w) ∨
    ∃ s v w' cnt', T.fit s ∧ left s = true ∧ f s = some v ∧ (Instr.next (.pointer (some ⟨r, 0, none⟩)) false ty).run P w = .ok (.tuple #[.bool true, T.kv s, v]) w' ∧
      MapW T w' b r n f (fun x => left x && !decide (x = s)) cnt' ∧ cnt' < cnt ∧ w.grownBy w' (some r) ∧ w'.heap.size = w.heap.size ∧ (Instr.entry (.pointer (some ⟨r, 0, none⟩))).run P w' = .ok (.tuple #[T.kv s, v]) w' := by
  obtain ⟨D, lf, h1, h2, h3⟩ := h
  rcases h1.next T.keyed ty with ⟨g1, g2, g3⟩ | ⟨key, u, kl, y, w', cnt', g1, g2, g3, g4, g5, g6, g7, g8, g9, g10⟩
  · exact .inl ⟨g1, fun s => by rw [← h3]; exact g2 _, g3⟩
  · obtain ⟨s, hfit, rfl⟩ := T.keyI g1
    have hkl : kl = T.kl s := by rw [T.kl_of hfit] at g1; exact (Option.some.inj g1).symm
    subst hkl
    have hy := heldR_inv g3
    subst hy
    have hf : f s = some u := by
      have := g4 (.held u)
      rw [h2] at this
      cases hf : f s with
      | none =>
        have e1 := g4 .nil
        rw [h2, hf] at e1
        cases e1
      | some x =>
        rw [hf] at this
        simp only [Option.map_some, Option.getD_some, DataW.held.injEq] at this
        rw [this]
    refine .inr ⟨s, u, w', cnt', hfit, by rw [← h3]; exact g2, hf, g5, ⟨D, _, g6, h2, fun x => ?_⟩, g7, g8, g9, g10⟩
    rw [h3]
    congr 1
    congr 1
    by_cases hx : x = s
    · subst hx; simp [WideAt.sameKey_self (T.keyed.key g1)]
    · simp [hx, sameKey_ne fun e => hx (T.inj hfit e)]
end
end Go.Ap
