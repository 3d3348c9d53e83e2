/-
  Maps of a program in plain words, groups of lines, a group sorted: what any seat wants of Q2 and Hp.
-/
import Derived.Maps.Ext
import Derived.Test.YtjmebijckcimoaaGreatDoorOpC
import Derived.Maps.OwnSet
import Derived.Sort.MapsRangeIn
import Derived.RowKit
import Derived.DeepKeys4
import Derived.Test.YtjmebijckcimoaaGreatDoorUa
import Derived.Test.YtjmebijckcimoaaGreatDoorNab
import Derived.Test.YtjmebijckcimoaaGreatDoorShb
import Derived.Sort.OwnSorted
import Derived.Lib.SlKeysI







namespace Go.Ap
open Go Go.RowKit Go.Maps Go.WideShapes
/-- how an element reads: as itself -/
def heldR (v : Value) : Option (DataW Value × List MemPlace) := some (.held v, [])
structure MapV (P : Program) (t k e : TypeId) (κ : Type) where
  kv : κ → Value
  fit : κ → Prop
  keyed : Keyed P k
  und : P.underlying t = some (.map k e)
  key : ∀ {s}, fit s → ∃ x, keyOf P k (kv s) = some (.string x)
  keyI : ∀ {v l}, keyOf P k v = some l → ∃ s, fit s ∧ v = kv s
  kinj : ∀ {s s'}, kv s = kv s' → s = s'
  zero : Value
  zeroV : ∀ w, (zeroValue e).run P w = .ok zero w
section
variable {P : Program} {t k e : TypeId} {κ : Type}
def MapV.kl (T : MapV P t k e κ) (s : κ) : Lit := (keyOf P k (T.kv s)).getD (.bool false)
theorem MapV.kl_of (T : MapV P t k e κ) {s : κ} (h : T.fit s) : keyOf P k (T.kv s) = some (T.kl s) := by
  obtain ⟨x, hx⟩ := T.key h
  unfold MapV.kl
  rw [hx]
  rfl
theorem MapV.inj (T : MapV P t k e κ) {s x : κ} (h : T.fit s) (he : T.kl x = T.kl s) : x = s := by
  obtain ⟨y, hy⟩ := T.key h
  have h1 : T.kl s = .string y := by unfold MapV.kl; rw [hy]; rfl
  rw [h1] at he
  cases hx : keyOf P k (T.kv x) with
  | none =>
    unfold MapV.kl at he
    rw [hx] at he
    cases he
  | some l =>
    have h2 : l = .string y := by unfold MapV.kl at he; rw [hx] at he; exact he
    subst h2
    exact T.kinj (T.keyed.inj hx hy)
variable (T : MapV P t k e κ)
/-- block b is a map of the call's own, of at most n entries: the value that it has at each key -/
def MapH (w : World) (b n : Nat) (f : κ → Option Value) : Prop :=
  ∃ D : DataW Value, w.ownsMap P k heldR b n D ∧ ∀ s z, D.atKey (T.kl s) z = ((f s).map fun v => DataW.held v).getD z
variable {T}
variable {w w' : World} {b n : Nat} {f : κ → Option Value} {s : κ} {v : Value}
theorem MapH.made (w : World) : MapH T (w.alloc (.map #[] 0)) w.heap.size 0 (fun _ => none) :=
  ⟨_, World.ownsMap_made w P k _, fun s z => by simp [atKey_of_not_has (D := (DataW.map [] : DataW Value)) (k := T.kl s) (by rfl) z]⟩
theorem MapH.kept {row : Option Nat} (h : MapH T w b n f) (hg : w.grownBy w' row) (hne : some b ≠ row) : MapH T w' b n f := by
  obtain ⟨D, h1, h2⟩ := h
  exact ⟨D, h1.kept hg hne, h2⟩
theorem MapH.lt (h : MapH T w b n f) : b < w.heap.size := by
  obtain ⟨D, h1, _⟩ := h
  exact h1.lt
theorem MapH.below (h : MapH T w b n f) (hb : Below w.heap.size w w') : MapH T w' b n f := by
  have hlt := h.lt
  obtain ⟨D, ⟨es, clock, h1, h2⟩, h3⟩ := h
  exact ⟨D, ⟨es, clock, (hb.block b hlt).trans h1, h2⟩, h3⟩
theorem MapH.mono {m : Nat} (h : MapH T w b n f) (hm : n ≤ m) : MapH T w b m f := by
  obtain ⟨D, h1, h2⟩ := h
  exact ⟨D, h1.mono hm, h2⟩
theorem MapH.ext {g : κ → Option Value} (h : MapH T w b n f) (hg : ∀ s, f s = g s) : MapH T w b n g := by
  obtain ⟨D, h1, h2⟩ := h
  exact ⟨D, h1, fun s z => by rw [h2, hg]⟩
def updV [DecidableEq κ] (f : κ → Option Value) (s : κ) (v : Value) : κ → Option Value := fun x => if x = s then some v else f x
theorem MapH.store [DecidableEq κ] (h : MapH T w b n f) (hn : n < maxLen) (hs : T.fit s) (v : Value) :
    ∃ w', (Instr.mapUpdate t (.map (some b)) (T.kv s) v).run P w = .ok () w' ∧ MapH T w' b (n + 1) (updV f s v) ∧ w.grownBy w' (some b) := by
  obtain ⟨D, h1, h2⟩ := h
  have hk := T.kl_of hs
  obtain ⟨w', r1, r2, r3⟩ := h1.update T.keyed T.und hn hk (d := .held v) (ps := []) rfl
  refine ⟨w', r1, ⟨_, r2, fun x z => ?_⟩, r3⟩
  unfold updV
  by_cases hx : x = s
  · subst hx
    rw [atKey_put_same (h1.isMap) (T.keyed.key hk), if_pos rfl]
    rfl
  · rw [atKey_put_other (fun e => hx (T.inj hs e)), if_neg hx]
    exact h2 x z
theorem heldR_inv {u : Value} {z : DataW Value × List MemPlace} (h : heldR u = some z) : z = (.held u, []) := (Option.some.inj h).symm
theorem MapH.look (h : MapH T w b n f) (hs : T.fit s) : (Instr.lookup t (.map (some b)) (T.kv s) false).run P w = .ok ((f s).getD T.zero) w := by
  obtain ⟨D, h1, h2⟩ := h
  obtain ⟨u, ps, hrun, hu⟩ := h1.lookup T.keyed T.und (T.zeroV w) (zd := .held T.zero) (zp := []) rfl (T.kl_of hs)
  rw [h2] at hu
  have hz := heldR_inv hu
  rw [hrun]
  simp only [Prod.mk.injEq] at hz
  cases hf : f s with
  | none =>
    rw [hf] at hz
    have := hz.1
    simp only [Option.map_none, Option.getD_none, DataW.held.injEq] at this
    rw [← this]
    rfl
  | some x =>
    rw [hf] at hz
    have := hz.1
    simp only [Option.map_some, Option.getD_some, DataW.held.injEq] at this
    rw [← this]
    rfl
theorem MapH.of_block (h : MapH T w b n f) (hb : w'.heap[b]? = w.heap[b]?) : MapH T w' b n f := by
  obtain ⟨D, ⟨es, clock, h1, h2⟩, h3⟩ := h
  exact ⟨D, ⟨es, clock, hb.trans h1, h2⟩, h3⟩
theorem modify_push {α : Type} (es : Array α) (x : α) (g : α → α) : (es.push x).modify es.size g = es.push (g x) := by
  apply Array.ext_getElem?
  intro k
  rw [Array.getElem?_modify, Array.getElem?_push, Array.getElem?_push]
  by_cases hk : k = es.size
  · subst hk
    simp
  · rw [if_neg hk, if_neg (fun e => hk e.symm), if_neg hk]
theorem modify_twice {α : Type} (es : Array α) (j : Nat) (g g' : α → α) : (es.modify j g).modify j g' = es.modify j (fun x => g' (g x)) := by
  apply Array.ext_getElem?
  intro k
  rw [Array.getElem?_modify, Array.getElem?_modify, Array.getElem?_modify]
  by_cases hk : j = k
  · subst hk
    cases es[j]? <;> simp
  · simp [hk]
theorem stamp_idx {es : Array MapEntry} {i : Nat} {e : MapEntry} (he : es[i]? = some e) (hu : ∀ j x, j < i → es[j]? = some x → x.born ≠ e.born) : es.findIdx? (fun x => (x.born : Int) == (e.born : Int)) = some i := by
  obtain ⟨hi, he'⟩ := Array.getElem?_eq_some_iff.1 he
  rw [Array.findIdx?_eq_some_iff_getElem]
  refine ⟨hi, by rw [he']; simp, fun j hj => ?_⟩
  have := hu j es[j] hj (Array.getElem?_eq_getElem _)
  simp only [Bool.not_eq_true, beq_eq_false_iff_ne]
  omega
/-- 'm[k] = append(m[k], ..)': the entry first, the store behind it -/
theorem MapH.entry [DecidableEq κ] (h : MapH T w b n f) (hn : n < maxLen) (hs : T.fit s) : ∃ w1 st o1, (Instr.mapEntry t (.map (some b)) (T.kv s)).run P w = .ok (.tuple #[(f s).getD T.zero, st]) w1 ∧ w.grownBy w1 (some b) ∧
    w1.heap[b]? = some o1 ∧ o1.isCells = false ∧ ∀ w2 v, w2.heap[b]? = some o1 → ∃ w3, (Instr.entryStore t (.map (some b)) st v).run P w2 = .ok () w3 ∧ MapH T w3 b (n + 1) (updV f s v) ∧ w2.grownBy w3 (some b) := by
  have hlook := h.look hs
  have hst := fun v => h.store hn hs v
  obtain ⟨D, ⟨es, clock, hb, F, hsz, hD⟩, h2⟩ := h
  have hkey := T.kl_of hs
  have hz := T.zeroV w
  rcases T.keyed.find w hkey es.toList F.keys with ⟨g1, g2⟩ | ⟨j, e0, g1, g2, g3⟩
  · have hf : (f s).getD T.zero = T.zero := by
      have := hlook
      simp [Instr.lookup, run_underlying T.und, MapKept.run_getObj_map hb, T.keyed.check w _ hkey, g1, hz, Result.andThen] at this
      exact this.symm
    obtain ⟨hst1, hst2, hst3⟩ := F.stamped
    refine ⟨ChangeMaps.setBlock w b (.map (es.push ⟨T.kv s, T.zero, clock⟩) (clock + 1)), goInt clock, .map (es.push ⟨T.kv s, T.zero, clock⟩) (clock + 1), ?_, ⟨rfl, rfl, rfl, by simp [ChangeMaps.setBlock], fun i _ hi => ChangeMaps.heap_setBlock_other hb _ (fun e => hi (by rw [e]))⟩, ChangeMaps.heap_setBlock_same hb _, rfl, fun w2 v hw2 => ?_⟩
    · simp [Instr.mapEntry, run_underlying T.und, MapKept.run_getObj_map hb, T.keyed.check w _ hkey, g1, hz, MapKept.run_setObj_map _ hb, Result.andThen, ChangeMaps.setBlock, hf]
    · obtain ⟨w', r1, r2, r3⟩ := hst v
      simp [Instr.mapUpdate, run_underlying T.und, MapKept.run_getObj_map hb, T.keyed.check w false hkey, g1, MapKept.run_setObj_map _ hb, Result.andThen] at r1
      subst r1
      have hidx : (es.push ⟨T.kv s, T.zero, clock⟩).findIdx? (fun e => (e.born : Int) == (clock : Int)) = some es.size := stamp_idx (e := ⟨T.kv s, T.zero, clock⟩) (by simp) (fun j x hj hx => by
        rw [Array.getElem?_push, if_neg (by omega)] at hx
        have := hst1 x (by simpa using Array.mem_of_getElem? hx)
        simp only
        omega)
      refine ⟨ChangeMaps.setBlock w2 b (.map (es.push ⟨T.kv s, v, clock⟩) (clock + 1)), ?_, r2.of_block ?_, ⟨rfl, rfl, rfl, by simp [ChangeMaps.setBlock], fun i _ hi => ChangeMaps.heap_setBlock_other hw2 _ (fun e => hi (by rw [e]))⟩⟩
      · simp [Instr.entryStore, MapKept.run_getObj_map hw2, goInt, asInt, asIntOf, hidx, MapKept.run_setObj_map _ hw2, Result.andThen, ChangeMaps.setBlock, modify_push]
      · rw [ChangeMaps.heap_setBlock_same hw2]
        exact (ChangeMaps.heap_setBlock_same hb _).symm
  · have hj : es[j]? = some e0 := by simpa using g2
    have hf : (f s).getD T.zero = e0.val := by
      have := hlook
      simp [Instr.lookup, run_underlying T.und, MapKept.run_getObj_map hb, T.keyed.check w _ hkey, g1, Result.andThen] at this
      exact this.symm
    obtain ⟨hst1, hst2, hst3⟩ := F.stamped
    refine ⟨ChangeMaps.setBlock w b (.map (es.modify j fun e => { e with key := T.kv s }) clock), goInt e0.born, .map (es.modify j fun e => { e with key := T.kv s }) clock, ?_, ⟨rfl, rfl, rfl, by simp [ChangeMaps.setBlock], fun i _ hi => ChangeMaps.heap_setBlock_other hb _ (fun e => hi (by rw [e]))⟩, ChangeMaps.heap_setBlock_same hb _, rfl, fun w2 v hw2 => ?_⟩
    · simp [Instr.mapEntry, run_underlying T.und, MapKept.run_getObj_map hb, T.keyed.check w _ hkey, g1, hj, g3, T.keyed.stays w hkey, MapKept.run_setObj_map _ hb, Result.andThen, ChangeMaps.setBlock, hf]
    · obtain ⟨w', r1, r2, r3⟩ := hst v
      simp [Instr.mapUpdate, run_underlying T.und, MapKept.run_getObj_map hb, T.keyed.check w false hkey, g1, hj, g3, T.keyed.stays w hkey, MapKept.run_setObj_map _ hb, Result.andThen] at r1
      subst r1
      have hidx : (es.modify j fun e => { e with key := T.kv s }).findIdx? (fun e => (e.born : Int) == (e0.born : Int)) = some j := stamp_idx (e := { e0 with key := T.kv s }) (by rw [Array.getElem?_modify, if_pos rfl, hj]; rfl) (fun i x hi hx => by
        rw [Array.getElem?_modify, if_neg (by omega)] at hx
        intro he
        simp only at he
        have hil : i < es.toList.length := by simpa using (Array.getElem?_eq_some_iff.1 hx).1
        have hjl : j < es.toList.length := by simpa using (Array.getElem?_eq_some_iff.1 hj).1
        have := List.pairwise_iff_getElem.1 hst2 i j (by simpa using hil) (by simpa using hjl) hi
        simp only [List.getElem_map, Array.getElem_toList] at this
        obtain ⟨_, hx'⟩ := Array.getElem?_eq_some_iff.1 hx
        obtain ⟨_, hj'⟩ := Array.getElem?_eq_some_iff.1 hj
        rw [hx', hj'] at this
        exact this he)
      refine ⟨ChangeMaps.setBlock w2 b (.map (es.modify j fun e => { e with key := T.kv s, val := v }) clock), ?_, r2.of_block ?_, ⟨rfl, rfl, rfl, by simp [ChangeMaps.setBlock], fun i _ hi => ChangeMaps.heap_setBlock_other hw2 _ (fun e => hi (by rw [e]))⟩⟩
      · simp [Instr.entryStore, MapKept.run_getObj_map hw2, goInt, asInt, asIntOf, hidx, MapKept.run_setObj_map _ hw2, Result.andThen, ChangeMaps.setBlock, modify_twice]
      · rw [ChangeMaps.heap_setBlock_same hw2]
        exact (ChangeMaps.heap_setBlock_same hb _).symm
theorem MapH.has (h : MapH T w b n f) : ∃ D : DataW Value, w.ownsMap P k heldR b n D ∧ (∀ s z, D.atKey (T.kl s) z = ((f s).map fun v => DataW.held v).getD z) ∧ ∀ s, Maps.has D (T.kl s) = (f s).isSome := by
  obtain ⟨D, h1, h2⟩ := h
  refine ⟨D, h1, h2, fun s => ?_⟩
  cases hf : f s with
  | none => exact has_false_of_atKey fun z => by rw [h2, hf]; rfl
  | some x => exact has_true_of_atKey fun z => by rw [h2, hf]; rfl
/-- a range over it is under way: the keys that are still to come -/
def MapW (T : MapV P t k e κ) (w : World) (b r n : Nat) (f : κ → Option Value) (left : κ → Bool) (cnt : Nat) : Prop :=
  ∃ (D : DataW Value) (lf : Lit → Bool), w.ranges P k heldR b r n D lf cnt ∧ (∀ s z, D.atKey (T.kl s) z = ((f s).map fun v => DataW.held v).getD z) ∧ ∀ s, lf (T.kl s) = left s
theorem MapW.kept {row : Option Nat} {r cnt : Nat} {left : κ → Bool} (h : MapW T w b r n f left cnt) (hg : w.grownBy w' row) (hne : some b ≠ row) (hne' : some r ≠ row) : MapW T w' b r n f left cnt := by
  obtain ⟨D, lf, h1, h2, h3⟩ := h
  exact ⟨D, lf, h1.kept hg hne hne', h2, h3⟩
theorem MapW.map {r cnt : Nat} {left : κ → Bool} (h : MapW T w b r n f left cnt) : MapH T w b n f := by
  obtain ⟨D, lf, h1, h2, h3⟩ := h
  exact ⟨D, h1.owns, h2⟩
theorem MapW.lt {r cnt : Nat} {left : κ → Bool} (h : MapW T w b r n f left cnt) : r < w.heap.size := by
  obtain ⟨D, lf, h1, h2, h3⟩ := h
  exact h1.lt
theorem MapW.left_eq {r cnt : Nat} {left : κ → Bool} (h : MapW T w b r n f left cnt) : w.rangeLeft b r = cnt := by
  obtain ⟨D, lf, h1, h2, h3⟩ := h
  exact h1.left_eq
theorem MapH.range (h : MapH T w b n f) : ∃ w' cnt, (Instr.range t (.map (some b))).run P w = .ok (.pointer (some ⟨w.heap.size, 0, none⟩)) w' ∧ MapW T w' b w.heap.size n f (fun s => (f s).isSome) cnt ∧ w.grownBy w' none ∧ w'.heap.size = w.heap.size + 1 ∧ cnt ≤ n := by
  obtain ⟨D, h1, h2, h3⟩ := h.has
  obtain ⟨w', r1, r2, r3, r4⟩ := h1.range T.keyed T.und
  exact ⟨w', _, r1, ⟨D, _, r2, h2, h3⟩, r3, r4, h1.size_le⟩
theorem MapW.next [DecidableEq κ] {r cnt : Nat} {left : κ → Bool} (h : MapW T w b r n f left cnt) (ty : TypeId) :
    (cnt = 0 ∧ (∀ s, left s = false) ∧ (Instr.next (.pointer (some ⟨r, 0, none⟩)) false ty).run P w = .ok (.tuple #[.bool false]) w) ∨
    ∃ s v w' cnt', T.fit s ∧ left s = true ∧ f s = some v ∧ (Instr.next (.pointer (some ⟨r, 0, none⟩)) false ty).run P w = .ok (.tuple #[.bool true, T.kv s, v]) w' ∧
      MapW T w' b r n f (fun x => left x && !decide (x = s)) cnt' ∧ cnt' < cnt ∧ w.grownBy w' (some r) ∧ w'.heap.size = w.heap.size ∧ (Instr.entry (.pointer (some ⟨r, 0, none⟩))).run P w' = .ok (.tuple #[T.kv s, v]) w' := by
  obtain ⟨D, lf, h1, h2, h3⟩ := h
  rcases h1.next T.keyed ty with ⟨g1, g2, g3⟩ | ⟨key, u, kl, y, w', cnt', g1, g2, g3, g4, g5, g6, g7, g8, g9, g10⟩
  · exact .inl ⟨g1, fun s => by rw [← h3]; exact g2 _, g3⟩
  · obtain ⟨s, hfit, rfl⟩ := T.keyI g1
    have hkl : kl = T.kl s := by rw [T.kl_of hfit] at g1; exact (Option.some.inj g1).symm
    subst hkl
    have hy := heldR_inv g3
    subst hy
    have hf : f s = some u := by
      have := g4 (.held u)
      rw [h2] at this
      cases hf : f s with
      | none =>
        have e1 := g4 .nil
        rw [h2, hf] at e1
        cases e1
      | some x =>
        rw [hf] at this
        simp only [Option.map_some, Option.getD_some, DataW.held.injEq] at this
        rw [this]
    refine .inr ⟨s, u, w', cnt', hfit, by rw [← h3]; exact g2, hf, g5, ⟨D, _, g6, h2, fun x => ?_⟩, g7, g8, g9, g10⟩
    rw [h3]
    congr 1
    congr 1
    by_cases hx : x = s
    · subst hx; simp [WideAt.sameKey_self (T.keyed.key g1)]
    · simp [hx, sameKey_ne fun e => hx (T.inj hfit e)]
end
end Go.Ap



namespace Go.Proofs.YtjmebijckcimoaaGreatDoor
open Go.RowKit Go.Ap Go.Shelf Go.Proofs Go.Maps

theorem sizeHd : ∃ m, Tryz.prog.types.size = m + 1 := ⟨Tryz.prog.types.size - 1, by
  have : decide (0 < Tryz.prog.types.size) = true := by kernel_rfl
  have := of_decide_eq_true this
  omega⟩
theorem strLits {m : Nat} {c : Value} {ls : List Lit} (h : Tryz.prog.keyLits (m + 1) 9 [c] = some ls) : ∃ s : ByteArray, c = .string s ∧ s.size ≤ maxLen := by
  unfold Program.keyLits at h
  simp only [Tryz.underlying9] at h
  cases c with
  | string s =>
    simp only [] at h
    split at h
    · rename_i hs
      exact ⟨s, rfl, hs⟩
    · cases h
  | _ => cases h
theorem bs_inj {a b : Str} (h : bs a = bs b) : a = b := by
  have := congrArg (fun x : ByteArray => x.data.toList) h
  simpa [bs] using this
end Go.Proofs.YtjmebijckcimoaaGreatDoor


namespace Go.Ap
open Go Go.RowKit
/-- a row of the call's own lies in no block that is no cells -/
theorem own_not {w : World} {base n size : Nat} {e : TypeId} {v : Value} {xs : List Value} {b : Nat} {o : Obj} (h : w.ownsRow base e size v n xs) (hb : w.heap[b]? = some o) (ho : o.isCells = false) : v.ownBlock = none ∨ v.ownBlock ≠ some b := by
  rcases h.2 with ⟨rfl, _⟩ | ⟨g, cap, cur, rfl, _, hg, _⟩
  · exact .inl rfl
  · refine .inr fun he => ?_
    have hgb : g = b := by simpa [Value.ownBlock] using he
    subst hgb
    rw [hg] at hb
    cases hb
    cases ho
theorem own_lt {w : World} {base n size : Nat} {e : TypeId} {v : Value} {xs : List Value} {k : Nat} (h : w.ownsRow base e size v n xs) (hk : v.ownBlock = some k) : k < w.heap.size := (h.lt k hk).2
section
variable {P : Program} {t k e : TypeId} {κ : Type} (T : MapV P t k e κ)
/-- block b is a map of at most n groups, each of the call's own -/
def Grp (ie : TypeId) (w : World) (b base n : Nat) (g : κ → List Int) : Prop :=
  ∃ f, MapH T w b n f ∧ (∀ s, f s = none → g s = []) ∧ (∀ s v, f s = some v → OwnI ie w base v (g s) ∧ g s ≠ []) ∧ ∀ s s' v v', f s = some v → f s' = some v' → s ≠ s' → Apart v v'
variable {T}
variable {ie : TypeId} {w w' : World} {b base n : Nat} {g : κ → List Int} {s : κ}
theorem MapH.obj {f : κ → Option Value} (h : MapH T w b n f) : ∃ o, w.heap[b]? = some o ∧ o.isCells = false := by
  obtain ⟨D, ⟨es, clock, h1, _⟩, _⟩ := h
  exact ⟨_, h1, rfl⟩
theorem Grp.made (w : World) : Grp T ie (w.alloc (.map #[] 0)) w.heap.size base 0 fun _ => [] :=
  ⟨_, MapH.made w, fun _ _ => rfl, fun _ _ h => (by cases h), fun _ _ _ _ h => (by cases h)⟩
theorem Grp.lt (h : Grp T ie w b base n g) : b < w.heap.size := by
  obtain ⟨f, h1, _⟩ := h
  exact h1.lt
theorem Grp.below (h : Grp T ie w b base n g) (hb : Below w.heap.size w w') : Grp T ie w' b base n g := by
  obtain ⟨f, h1, h2, h3, h4⟩ := h
  exact ⟨f, h1.below hb, h2, fun s v hv => ⟨(h3 s v hv).1.below hb, (h3 s v hv).2⟩, h4⟩
def updG [DecidableEq κ] (g : κ → List Int) (s : κ) (xs : List Int) : κ → List Int := fun x => if x = s then xs else g x
/-- 'm[k] = append(m[k], ..)' -/
theorem Grp.entry [DecidableEq κ] (hz : T.zero = .slice none 0 0) (h : Grp T ie w b base n g) (hn : n < maxLen) (hs : T.fit s) :
    ∃ u w1 st o1, (Instr.mapEntry t (.map (some b)) (T.kv s)).run P w = .ok (.tuple #[u, st]) w1 ∧ OwnI ie w1 base u (g s) ∧ w.grownBy w1 (some b) ∧ w1.heap[b]? = some o1 ∧ o1.isCells = false ∧ b < w.heap.size ∧
      ∀ w2 v xs, w2.heap[b]? = some o1 → w1.grownBy w2 u.ownBlock → OwnI ie w2 base v xs → xs ≠ [] → (v.ownBlock = u.ownBlock ∨ ∃ k, w1.heap.size ≤ k ∧ v.ownBlock = some k) →
        ∃ w3, (Instr.entryStore t (.map (some b)) st v).run P w2 = .ok () w3 ∧ Grp T ie w3 b base (n + 1) (updG g s xs) ∧ w2.grownBy w3 (some b) := by
  obtain ⟨f, h1, h2, h3, h4⟩ := h
  obtain ⟨o0, ho0, hoc⟩ := h1.obj
  obtain ⟨w1, st, o1, r1, r2, r3, r4, r5⟩ := h1.entry hn hs
  have keep1 : ∀ x v, f x = some v → OwnI ie w1 base v (g x) := fun x v hv => (h3 x v hv).1.kept r2 (own_not (h3 x v hv).1.1 ho0 hoc)
  refine ⟨(f s).getD T.zero, w1, st, o1, r1, ?_, r2, r3, r4, h1.lt, fun w2 v xs q1 q2 q3 q4 q5 => ?_⟩
  · cases hf : f s with
    | none => rw [h2 s hf, hz]; exact OwnI.nil _ _ _
    | some u => exact keep1 s u hf
  · obtain ⟨w3, p1, p2, p3⟩ := r5 w2 v q1
    refine ⟨w3, p1, ⟨_, p2, fun x hx => ?_, fun x u hx => ?_, fun x y u u' hx hy hxy => ?_⟩, p3⟩
    · unfold updV at hx
      unfold updG
      by_cases hxs : x = s
      · rw [if_pos hxs] at hx; cases hx
      · rw [if_neg hxs] at hx ⊢
        exact h2 x hx
    · unfold updV at hx
      unfold updG
      by_cases hxs : x = s
      · rw [if_pos hxs] at hx ⊢
        cases hx
        exact ⟨q3.kept p3 (own_not q3.1 q1 r4), q4⟩
      · rw [if_neg hxs] at hx ⊢
        refine ⟨?_, (h3 x u hx).2⟩
        have k1 := keep1 x u hx
        have k2 : OwnI ie w2 base u (g x) := k1.kept q2 (by
          cases hf : f s with
          | none =>
            simp only [Option.getD_none, hz]
            by_cases he : u.ownBlock = none
            · exact .inl he
            · exact .inr he
          | some y =>
            simp only [Option.getD_some]
            exact h4 x s u y hx hf hxs)
        exact k2.kept p3 (own_not k2.1 q1 r4)
    · have key : ∀ x u, x ≠ s → f x = some u → u.ownBlock = none ∨ u.ownBlock ≠ v.ownBlock := fun x u hxs hx => by
        by_cases he : u.ownBlock = none
        · exact .inl he
        refine .inr fun heq => ?_
        rcases q5 with q5 | ⟨k, hk, q5⟩
        · cases hf : f s with
          | none =>
            rw [hf, Option.getD_none, hz] at q5
            rw [heq, q5] at he
            exact he rfl
          | some y =>
            rw [hf, Option.getD_some] at q5
            rcases h4 x s u y hx hf hxs with h5 | h5
            · exact he h5
            · exact h5 (heq.trans q5)
        · have := own_lt (keep1 x u hx).1 (heq.trans q5)
          omega
      unfold updV at hx hy
      by_cases hxs : x = s
      · rw [if_pos hxs] at hx
        cases hx
        rw [if_neg (fun e => hxy (hxs.trans e.symm))] at hy
        exact apart_symm (key y u' (fun e => hxy (hxs.trans e.symm)) hy)
      · rw [if_neg hxs] at hx
        by_cases hys : y = s
        · rw [if_pos hys] at hy
          cases hy
          exact key x u hxs hx
        · rw [if_neg hys] at hy
          exact h4 x y u u' hx hy hxy
end
end Go.Ap





namespace Go.Ap
open Go Go.RowKit
def sortI (l : List Int) : List Int := l.mergeSort fun x y => decide (x ≤ y)
theorem sortI_perm (l : List Int) : (sortI l).Perm l := List.mergeSort_perm _ _
theorem sortI_asc (l : List Int) : (sortI l).Pairwise (· ≤ ·) := by
  have := List.pairwise_mergeSort (le := fun x y : Int => decide (x ≤ y)) (fun a b c h1 h2 => by simp only [decide_eq_true_eq] at *; omega) (fun a b => by simp only [Bool.or_eq_true, decide_eq_true_eq]; omega) l
  exact this.imp fun h => by simpa using h
/-- of a list in order, each once -/
theorem compact_asc {zs : List Int} (hs : zs.Pairwise (· ≤ ·)) : (Lib.compact zs).Pairwise (· < ·) ∧ ∀ x, x ∈ Lib.compact zs ↔ x ∈ zs := by
  have get : ∀ j (h : j < zs.length), zs.toArray[j]! = zs[j] := fun j h => by rw [getElem!_pos _ j (by simpa using h)]; simp
  have key : ∀ m, m ≤ zs.length → (Lib.compactUpTo zs.toArray m).Pairwise (· < ·) ∧ (∀ x, x ∈ Lib.compactUpTo zs.toArray m ↔ ∃ j, ∃ h : j < zs.length, j < m ∧ zs[j] = x) := fun m => by
    induction m with
    | zero => exact fun _ => ⟨by simp [Lib.compactUpTo], fun x => by simp [Lib.compactUpTo]⟩
    | succ m ih =>
      intro hm
      obtain ⟨h1, h2⟩ := ih (by omega)
      rw [Lib.compactUpTo_succ]
      have hasc := List.pairwise_iff_getElem.1 hs
      cases hk : Lib.keeps zs.toArray m
      · have hmp : 0 < m := Nat.pos_of_ne_zero fun h0 => by
          subst h0
          rw [Lib.keeps_lt_one _ 0 (by omega)] at hk
          cases hk
        have heq : zs[m] = zs[m - 1] := Classical.byContradiction fun hne => by
          rw [Lib.keeps_pos (by rw [get m (by omega), get (m - 1) (by omega)]; exact hne)] at hk
          cases hk
        rw [if_neg (by simp), List.append_nil]
        refine ⟨h1, fun x => (h2 x).trans ⟨fun ⟨j, hj, hjm, e⟩ => ⟨j, hj, by omega, e⟩, fun ⟨j, hj, hjm, e⟩ => ?_⟩⟩
        by_cases hjm' : j = m
        · subst hjm'
          exact ⟨j - 1, by omega, by omega, by rw [← heq]; exact e⟩
        · exact ⟨j, hj, by omega, e⟩
      · rw [if_pos rfl, get m (by omega)]
        refine ⟨List.pairwise_append.2 ⟨h1, by simp, fun a ha b hb => ?_⟩, fun x => ?_⟩
        · rw [List.mem_singleton] at hb
          subst hb
          obtain ⟨j, hj, hjm, rfl⟩ := (h2 a).1 ha
          have h3 := hasc j m hj (by omega) hjm
          by_cases hlt : zs[j] < zs[m]
          · exact hlt
          · exfalso
            have heq : zs[m] = zs[m - 1] := by
              by_cases hj1 : j = m - 1
              · subst hj1; omega
              · have h4 := hasc j (m - 1) hj (by omega) (by omega)
                have h5 := hasc (m - 1) m (by omega) (by omega) (by omega)
                omega
            rw [Lib.keeps_neg (by omega) (by rw [get m (by omega), get (m - 1) (by omega)]; exact heq)] at hk
            cases hk
        · rw [List.mem_append, h2, List.mem_singleton]
          constructor
          · rintro (⟨j, hj, hjm, e⟩ | rfl)
            · exact ⟨j, hj, by omega, e⟩
            · exact ⟨m, by omega, by omega, rfl⟩
          · rintro ⟨j, hj, hjm, e⟩
            by_cases hjm' : j = m
            · subst hjm'; exact .inr e.symm
            · exact .inl ⟨j, hj, by omega, e⟩
  obtain ⟨h1, h2⟩ := key zs.length (Nat.le_refl _)
  refine ⟨h1, fun x => (h2 x).trans ⟨fun ⟨j, hj, _, e⟩ => e ▸ List.getElem_mem hj, fun hx => ?_⟩⟩
  obtain ⟨j, hj, e⟩ := List.getElem_of_mem hx
  exact ⟨j, hj, hj, e⟩
end Go.Ap
namespace Go.Proofs.YtjmebijckcimoaaGreatDoor
open Go.RowKit Go.Ap Go.Shelf Go.Proofs Go.Sort

theorem sortG (base : Nat) (v : Value) (xs : List Int) (w : World) (ho : OwnI 3 w base v xs) (hl : xs.length ≤ 1000000) (h0 : xs ≠ []) :
    ∃ a c, v = .slice a xs.length c ∧ Calls Tryz.prog 24 #[.slice a xs.length c] w fun e w' => e = .returned (.tuple #[]) ∧ OwnI 3 w' base v (Go.Ap.sortI xs) ∧ w.grownBy w' v.ownBlock := by
  have h0' := List.length_pos_iff.2 h0
  rcases ho.1.2 with ⟨_, hz⟩ | ⟨gb, cap, cur, rfl, hbase, hgb, r1, r2, r3, r4⟩
  · omega
  · have hH : Go.Sort.Holds (Value.int .i64) w gb 0 xs.toArray := holds_of_block_i hgb (by simpa using r4)
    have hgl : gb < w.heap.size := (Array.getElem?_eq_some_iff.1 hgb).1
    refine ⟨_, cap, rfl, (Tryz.slices_Sort_int gb 0 cap xs w hH hgl (by omega)).mono ?_⟩
    rintro e w' ⟨rfl, nn, os, rfl⟩
    have hp := Go.Ap.sortI_perm xs
    have hs := ownsRow_sorted_i (w := w) (n := nn) (os := os) (ts := Go.Ap.sortI xs) (ss := xs) (hp.length_eq) hbase hgb r1 r2 r3
    refine ⟨rfl, ⟨?_, fun x hx => ho.2 x (hp.mem_iff.1 hx)⟩, grownBy_sorted_i _⟩
    rw [hp.length_eq]
    exact hs
theorem compG (base : Nat) (v : Value) (xs : List Int) (w : World) (ho : OwnI 3 w base v xs) (hl : xs.length ≤ 1000000) (h0 : xs ≠ []) (hs : xs.Pairwise (· ≤ ·)) :
    ∃ a c, v = .slice a xs.length c ∧ Calls Tryz.prog 70 #[.slice a xs.length c] w fun e w' => ∃ u, e = .returned u ∧ OwnI 3 w' base u (Lib.compact xs) ∧ w.grownBy w' v.ownBlock ∧ u.ownBlock = v.ownBlock := by
  have h0' := List.length_pos_iff.2 h0
  rcases ho.1.2 with ⟨_, hz⟩ | ⟨gb, cap, cur, rfl, hbase, hgb, r1, r2, r3, r4⟩
  · omega
  · have hH : Go.Sort.Holds (Value.int .i64) w gb 0 xs.toArray := holds_of_block_i hgb (by simpa using r4)
    have hle : (Lib.compact xs).length ≤ xs.length := by
      unfold Lib.compact Lib.compactUpTo
      rw [List.length_map]
      exact Nat.le_trans (List.length_filter_le _ _) (by simp)
    refine ⟨_, cap, rfl, (Tryz.slices_Compact_int gb 0 cap xs w hH (by omega) r1).mono ?_⟩
    rintro e w' ⟨rfl, q, rfl⟩
    have hlen : (Lib.compact xs ++ List.replicate (xs.length - (Lib.compact xs).length) (0 : Int)).length = xs.length := by simp; omega
    have hrow := ownsRow_sorted_i (w := w) (n := q) (os := #[]) (ts := Lib.compact xs ++ List.replicate (xs.length - (Lib.compact xs).length) (0 : Int)) (ss := xs) hlen hbase hgb r1 r2 r3
    have hg := grownBy_sorted_i (w := w) (g := gb) (n := q) (os := #[]) (Lib.compact xs ++ List.replicate (xs.length - (Lib.compact xs).length) (0 : Int)).toArray
    rw [grow_empty] at hrow hg
    refine ⟨_, rfl, ⟨⟨by simp, ?_⟩, fun x hx => ho.2 x ((compact_asc hs).2 x |>.1 hx)⟩, hg, rfl⟩
    rcases hrow.2 with ⟨hz, _⟩ | ⟨g', cap', cur', he, hb', hg', q1, q2, q3, q4⟩
    · cases hz
    · simp only [Value.slice.injEq, Option.some.injEq, Addr.mk.injEq, and_true] at he
      obtain ⟨rfl, _, rfl⟩ := he
      refine .inr ⟨gb, cap, cur', rfl, hbase, hg', by omega, r2, q3, ?_⟩
      have := congrArg (List.take (Lib.compact xs).length) q4
      rw [List.take_take, Nat.mul_one, Nat.min_eq_left hle, ← List.map_take, List.take_left] at this
      rw [Nat.mul_one]
      exact this
end Go.Proofs.YtjmebijckcimoaaGreatDoor

namespace Go.Ap
open Go Go.RowKit Go.Maps Go.WideShapes
section
variable {P : Program} {t k e : TypeId} {κ : Type} {T : MapV P t k e κ} {w w' : World} {b n : Nat} {f : κ → Option Value}
theorem nodup_length_le {α : Type} [DecidableEq α] : ∀ {l m : List α}, l.Nodup → (∀ x ∈ l, x ∈ m) → l.length ≤ m.length
  | [], _, _, _ => Nat.zero_le _
  | a :: l, m, h, hs => by
    rw [List.nodup_cons] at h
    have h1 : a ∈ m := hs a (List.mem_cons_self ..)
    have h2 : ∀ x ∈ l, x ∈ m.erase a := fun x hx => by
      rw [List.mem_erase_of_ne (fun e => by subst e; exact h.1 hx)]
      exact hs x (List.mem_cons_of_mem _ hx)
    have h3 := nodup_length_le h.2 h2
    have h4 := List.length_erase_of_mem h1
    have h5 := List.length_pos_of_mem h1
    rw [List.length_cons]
    omega
/-- how many keys a map has -/
theorem MapH.count [DecidableEq κ] (h : MapH T w b n f) {ks : List κ} (hk : ks.Nodup) (hm : ∀ s, T.fit s → (f s ≠ none ↔ s ∈ ks)) (hfit : ∀ s ∈ ks, T.fit s) (ty : TypeId) :
    (Builtin.len_ #[t] ty #[.map (some b)]).run P w = .ok (.int .i64 (ks.length : Nat)) w := by
  classical
  obtain ⟨D, ⟨es, clock, hb, F, hs, rfl⟩, h2⟩ := h
  have hlen := World.ownsMap.len (P := P) (k := k) (R := heldR) (w := w) (b := b) (n := n) ⟨es, clock, hb, F, hs, rfl⟩ T.und ty
  rw [hlen]
  obtain ⟨es', hes⟩ : ∃ es', (es.toList.map (WideElems.rg P k heldR)).foldr DataW.insert [] = es' := ⟨_, rfl⟩
  rw [hes] at h2 ⊢
  have hnd : (es'.map (·.1)).Nodup := by
    rw [← hes, List.Nodup, List.pairwise_map]
    exact ((sorted_perm _).pairwise_iff (fun {_ _} hne => Ne.symm hne)).2 (Maps.fit_apart T.keyed F)
  have hkl : ∀ p ∈ es', ∃ s, T.fit s ∧ T.kl s = p.1 ∧ WideAt.IsKeyLit p.1 := fun p hp => by
    rw [← hes] at hp
    obtain ⟨x, hx, rfl⟩ := List.mem_map.1 (mem_sorted.1 hp)
    obtain ⟨y, hy⟩ := F.reads x hx
    rw [WideElems.rg_of hy]
    have hk1 := WideElems.rd_key hy
    obtain ⟨s, hf, hv⟩ := T.keyI hk1
    refine ⟨s, hf, ?_, T.keyed.key hk1⟩
    rw [hv, T.kl_of hf] at hk1
    exact Option.some.inj hk1
  have hhas : ∀ s, Maps.has (DataW.map es') (T.kl s) = (f s).isSome := fun s => by
    cases hf : f s with
    | none => exact has_false_of_atKey fun z => by rw [h2, hf]; rfl
    | some x => exact has_true_of_atKey fun z => by rw [h2, hf]; rfl
  have l1 : (es'.map (·.1)).length ≤ (ks.map T.kl).length := nodup_length_le hnd fun z hz => by
    obtain ⟨p, hp, rfl⟩ := List.mem_map.1 hz
    obtain ⟨s, hf, he, hlit⟩ := hkl p hp
    have h3 : Maps.has (DataW.map es') (T.kl s) = true := by
      rw [has_eq, he]
      exact List.any_eq_true.2 ⟨p, hp, WideAt.sameKey_self hlit⟩
    rw [hhas, Option.isSome_iff_ne_none] at h3
    exact List.mem_map.2 ⟨s, (hm s hf).1 h3, he⟩
  have l2 : (ks.map T.kl).length ≤ (es'.map (·.1)).length := nodup_length_le (List.pairwise_map.2 (hk.imp_of_mem fun {a c} ha _ hne he => hne (T.inj (hfit a ha) he.symm).symm)) fun z hz => by
    obtain ⟨s, hs', rfl⟩ := List.mem_map.1 hz
    have h3 : Maps.has (DataW.map es') (T.kl s) = true := by
      rw [hhas, Option.isSome_iff_ne_none]
      exact (hm s (hfit s hs')).2 hs'
    rw [has_eq] at h3
    obtain ⟨p, hp, hsk⟩ := List.any_eq_true.1 h3
    obtain ⟨_, _, _, hlit⟩ := hkl p hp
    exact List.mem_map.2 ⟨p, hp, WideAt.sameKey_eq hsk⟩
  rw [List.length_map, List.length_map] at l1 l2
  rw [size_eq, show es'.length = ks.length by omega]
end
end Go.Ap
namespace Go.Proofs.YtjmebijckcimoaaGreatDoor
open Go.RowKit Go.Ap Go.Shelf Go.Proofs Go.Maps
theorem wf_i64 {z : Int} (h : I64 z) : (Lit.int .i64 z).wf = true := by
  have h1 : IntKind.i64.min = -9223372036854775808 := rfl
  have h2 : IntKind.i64.max = 9223372036854775807 := rfl
  have := h.1
  have := h.2
  simp only [Lit.wf, Bool.and_eq_true, decide_eq_true_eq, h1, h2]
  omega
theorem intLits {m : Nat} {c : Value} {ls : List Lit} (h : Tryz.prog.keyLits (m + 1) 3 [c] = some ls) : ∃ z : Int, c = .int .i64 z ∧ I64 z := by
  unfold Program.keyLits at h
  simp only [Tryz.underlying3] at h
  cases c with
  | int q z =>
    simp only [] at h
    split at h
    · rename_i hs
      obtain ⟨rfl, hwf⟩ := hs
      exact ⟨z, rfl, i64_of_wf hwf⟩
    · cases h
  | _ => cases h
end Go.Proofs.YtjmebijckcimoaaGreatDoor
