/-
  What a call owns: ints, rows of ints, values of which something holds, blocks.
-/
import Derived.Test.YtngdmpkoedpgdaaGreatDoorPl
import Derived.RangeFuncBox
import Derived.Maps.AppendAt
import Derived.Laws.OwnMore
import Derived.Deep.AppendLies
namespace Go.Ap
open Go Go.RowKit

/-- a slice of ints of the call's own -/
def OwnI (e : TypeId) (w : World) (base : Nat) (v : Value) (xs : List Int) : Prop := w.ownsRow base e 1 v xs.length (xs.map (Value.int .i64)) ∧ ∀ x ∈ xs, I64 x
section
variable {e t : TypeId} {w w' w1 : World} {base base' : Nat} {v u v' : Value} {xs : List Int}
theorem OwnI.below (h : OwnI e w base v xs) (hb : Below w.heap.size w w') : OwnI e w' base v xs := ⟨owns_below h.1 hb, h.2⟩
theorem OwnI.mono (h : OwnI e w base v xs) (hb : base' ≤ base) : OwnI e w base' v xs := ⟨owns_mono h.1 hb, h.2⟩
theorem OwnI.kept {row : Option Nat} (h : OwnI e w base v xs) (hg : w.grownBy w' row) (hne : v.ownBlock = none ∨ v.ownBlock ≠ row) : OwnI e w' base v xs := ⟨h.1.kept hg hne, h.2⟩
end
def Apart (u v : Value) : Prop := u.ownBlock = none ∨ u.ownBlock ≠ v.ownBlock
theorem OwnI.ints {w : World} {base : Nat} {v : Value} {xs : List Int} (h : OwnI 3 w base v xs) (hn : xs.length ≤ 4611686018427387903) : ∃ a c, v = .slice a xs.length c ∧ Ints w a xs.length xs := ints_of_owns h.1 h.2 hn
theorem OwnI.pushed {w w1 : World} {base : Nat} {v v' : Value} {xs : List Int} {x : Int} {tmp : Obj} (h : OwnI 3 w base v xs) (hx : I64 x) (hb : base ≤ w.heap.size) (hown : w1.ownsRow base 3 1 v' (xs.length + 1) (xs.map (Value.int .i64) ++ [.int .i64 x])) (hg : (w.alloc tmp).grownBy w1 v.ownBlock) :
    OwnI 3 w1 base v' (xs ++ [x]) ∧ Below base w w1 := by
  refine ⟨⟨by simpa using hown, fun y hy => ?_⟩, ((Below.refl base w).alloc hb tmp).grown hg (by simp; omega) (fun k hk => (h.1.lt k hk).1)⟩
  rcases List.mem_append.1 hy with h1 | h1
  · exact h.2 y h1
  · rw [List.mem_singleton] at h1; subst h1; exact hx
theorem OwnI.empty (w : World) {base : Nat} (hw : base ≤ w.heap.size) : OwnI 3 (w.alloc (.cells #[] 3)) base (.slice (some ⟨w.heap.size, 0, none⟩) 0 0) [] :=
  ⟨World.ownsRow_made w #[] 0 hw (by simp [maxLen]) rfl, fun x hx => by cases hx⟩
theorem OwnI.nil (e : TypeId) (w : World) (base : Nat) : OwnI e w base (.slice none 0 0) [] := ⟨World.ownsRow_nil _ _ _ _, by simp⟩
theorem apart_symm {a b : Value} (h : Apart a b) : Apart b a := by
  unfold Apart at h ⊢
  rcases h with h | h
  · cases hb : b.ownBlock with
    | none => exact .inl rfl
    | some k => exact .inr (by rw [h]; simp)
  · exact .inr fun e => h e.symm
section
variable {w w' w0 : World} {base n : Nat} {e : TypeId} {size : Nat} {v : Value} {xs : List Value} {row : Option Nat}
def NoCells (w : World) (row : Option Nat) : Prop := ∀ r, row = some r → ∃ o : Obj, w.heap[r]? = some o ∧ o.isCells = false
/-- a block that holds just these cells -/
def BlkK (W : World) (b : Nat) (cs : Array Value) (t : TypeId) : Prop := W.heap[b]? = some (.cells cs t (0, 0))
variable {b : Nat} {cs : Array Value} {t : TypeId}
theorem BlkK.lt (h : BlkK w b cs t) : b < w.heap.size := (Array.getElem?_eq_some_iff.1 h).1
theorem BlkK.cell (h : BlkK w b cs t) {i : Nat} {u : Value} (hu : cs[i]? = some u) : w.cell? ⟨b, i, none⟩ = some u := by
  simp only [World.cell?, show w.heap[b]? = _ from h]
  simpa using hu
theorem BlkK.below (h : BlkK w b cs t) (hb : Below w.heap.size w w') : BlkK w' b cs t := (hb.block b h.lt).trans h
theorem BlkK.keptN (h : BlkK w b cs t) (hg : w.grownBy w' row) (hr : NoCells w row) : BlkK w' b cs t := by
  refine (hg.block b h.lt fun he => ?_).trans h
  obtain ⟨o, ho, hc⟩ := hr b he.symm
  rw [show w.heap[b]? = _ from h] at ho
  cases ho
  cases hc
theorem BlkK.new (w : World) (cs : Array Value) (t : TypeId) : BlkK (w.alloc (.cells cs t)) w.heap.size cs t := heap_fresh rfl
theorem BlkK.keptE (h : BlkK w b cs t) (hg : w.grownBy w' row) (hne : some b ≠ row) : BlkK w' b cs t := (hg.block b h.lt hne).trans h
/-- a row of another type is another block -/
theorem BlkK.apart (h : BlkK w b cs t) (h' : w.ownsRow base e size v n xs) (hne : t ≠ e) : some b ≠ v.ownBlock := by
  rcases h'.2 with ⟨rfl, _⟩ | ⟨g, cap, cur, rfl, _, hgg, _⟩
  · simp [Value.ownBlock]
  · intro he
    have : b = g := by simpa [Value.ownBlock] using he
    subst this
    rw [show w.heap[b]? = _ from h] at hgg
    simp at hgg
    exact hne hgg.2
end
section
variable {W : World}
theorem BlkK.put {b : Nat} {cs : Array Value} {t : TypeId} {i : Nat} {v : Value} (h : BlkK W b cs t) : BlkK (W.setCell ⟨b, i, none⟩ v) b (cs.setIfInBounds i v) t := by
  obtain ⟨hl, he⟩ := Array.getElem?_eq_some_iff.1 (show W.heap[b]? = _ from h)
  refine Array.getElem?_eq_some_iff.2 ⟨by simpa [World.setCell] using hl, ?_⟩
  simp [World.setCell, Array.getElem_modify, he]
theorem BlkK.hard {b : Nat} {cs : Array Value} {t : TypeId} {i : Nat} (h : BlkK W b cs t) : W.frozen? ⟨b, i, none⟩ = false := by simp [World.frozen?, show W.heap[b]? = _ from h]
theorem grown_put (W : World) (b i : Nat) (v : Value) : W.grownBy (W.setCell ⟨b, i, none⟩ v) (some b) := ⟨rfl, rfl, rfl, by simp [World.setCell], fun k _ hk => Below.heap_setCell _ _ _ k fun e => hk (by rw [e])⟩
end
theorem owns_none {W : World} {base size n : Nat} {e : TypeId} {v : Value} {xs : List Value} {row : Option Nat} (h : W.ownsRow base e size v n xs) (hr : NoCells W row) : v.ownBlock = none ∨ v.ownBlock ≠ row := by
  rcases h.2 with ⟨rfl, _⟩ | ⟨g, cap, cur, rfl, _, hg, _⟩
  · exact .inl rfl
  · refine .inr fun e => ?_
    obtain ⟨o, ho, hc⟩ := hr g (e ▸ rfl)
    rw [hg] at ho
    cases ho
    cases hc
section
variable {α : Type} {e : TypeId} {P P' : Value → α → Prop} {w w' : World} {base : Nat} {v : Value} {xs : List α}
def OwnV (e : TypeId) (P : Value → α → Prop) (w : World) (base : Nat) (v : Value) (xs : List α) : Prop :=
  ∃ vs : List Value, w.ownsRow base e 1 v xs.length vs ∧ ∀ (k : Nat) (x : α), xs[k]? = some x → ∃ u, vs[k]? = some u ∧ P u x
theorem OwnV.nil (w : World) (base : Nat) : OwnV e P w base (.slice none 0 0) [] := ⟨[], World.ownsRow_nil _ _ _ _, fun k x hk => by simp at hk⟩
theorem OwnV.below (h : OwnV e P w base v xs) (hb : Below w.heap.size w w') : OwnV e P w' base v xs := by
  obtain ⟨vs, h1, h2⟩ := h
  exact ⟨vs, owns_below h1 hb, h2⟩
theorem OwnV.kept {row : Option Nat} (h : OwnV e P w base v xs) (hg : w.grownBy w' row) (hne : v.ownBlock = none ∨ v.ownBlock ≠ row) : OwnV e P w' base v xs := by
  obtain ⟨vs, h1, h2⟩ := h
  exact ⟨vs, h1.kept hg hne, h2⟩
theorem OwnV.imp (h : OwnV e P w base v xs) (hP : ∀ u x, P u x → P' u x) : OwnV e P' w base v xs := by
  obtain ⟨vs, h1, h2⟩ := h
  exact ⟨vs, h1, fun k x hk => by obtain ⟨u, hu, hp⟩ := h2 k x hk; exact ⟨u, hu, hP u x hp⟩⟩
/-- ready for one more -/
theorem OwnV.ready (h : OwnV e P w base v xs) : ∃ vs, w.ownsRow base e 1 v xs.length vs ∧ ∀ (w1 : World) (v' u : Value) (x : α), w1.ownsRow base e 1 v' (xs.length + 1) (vs ++ [u]) → P u x → OwnV e P w1 base v' (xs ++ [x]) := by
  obtain ⟨vs, h1, h2⟩ := h
  have hl : vs.length = xs.length := by have := h1.1; omega
  refine ⟨vs, h1, fun w1 v' u x ho hp => ⟨vs ++ [u], by simpa using ho, fun k y hk => ?_⟩⟩
  rw [List.getElem?_append] at hk ⊢
  rw [hl]
  split at hk
  · rename_i hlt
    rw [if_pos hlt]
    exact h2 k y hk
  · rename_i hlt
    rw [if_neg hlt]
    have hk0 : k - xs.length = 0 := by
      have := (List.getElem?_eq_some_iff.1 hk).1
      simp at this
      omega
    rw [hk0] at hk ⊢
    simp at hk
    subst hk
    exact ⟨u, rfl, hp⟩
theorem OwnV.sl {R : World → Value → α → Prop} (h : OwnV e P w base v xs) (hn : xs.length ≤ 4611686018427387903) (hR : ∀ u x, P u x → R w u x) : ∃ a c, v = .slice a xs.length c ∧ Sl R w a xs.length xs := by
  obtain ⟨vs, h1, h2⟩ := h
  rcases h1.2 with ⟨rfl, h0⟩ | ⟨g, cap, cur, rfl, _⟩
  · have : xs = [] := List.eq_nil_of_length_eq_zero h0
    subst this
    exact ⟨none, 0, rfl, Sl.nil _ _⟩
  · refine ⟨_, cap, rfl, rfl, hn, fun k x hk => ?_⟩
    obtain ⟨u, hu, hp⟩ := h2 k x hk
    have hkl : k < xs.length := (List.getElem?_eq_some_iff.1 hk).1
    exact ⟨g, 0, u, rfl, by rw [Nat.zero_add, h1.cellAt _ (by omega)]; exact hu, hR u x hp⟩
/-- a row of strings of the call's own: the slice's shape -/
theorem OwnS.cap {xs : List Str} (h : OwnS w base v xs) (hn : xs.length ≤ 4611686018427387903) : ∃ a c, v = .slice a xs.length c ∧ StrsL w a xs.length xs ∧ xs.length ≤ c := by
  obtain ⟨a, c, rfl, hs⟩ := h.strs hn
  refine ⟨a, c, rfl, hs, ?_⟩
  rcases h.2 with ⟨he, h0⟩ | ⟨g, cap, cur, he, _, _, hr⟩
  · omega
  · cases he
    have := hr.1
    omega
end
section
variable {w w' w1 : World} {base base' : Nat} {v u : Value} {xss : List (List Int)}
/-- a slice of slices of ints, all of the call's own, no two in one block -/
def OwnTb (w : World) (base : Nat) (v : Value) (xss : List (List Int)) : Prop :=
  ∃ vs : List Value, w.ownsRow base 26 1 v xss.length vs ∧ (∀ (k : Nat) (xs : List Int), xss[k]? = some xs → ∃ u, vs[k]? = some u ∧ OwnI 3 w base u xs) ∧ vs.Pairwise Apart
theorem OwnTb.below (h : OwnTb w base v xss) (hb : Below w.heap.size w w') : OwnTb w' base v xss := by
  obtain ⟨vs, h1, h2, h3⟩ := h
  exact ⟨vs, owns_below h1 hb, fun k xs hk => by obtain ⟨u, hu, ho⟩ := h2 k xs hk; exact ⟨u, hu, ho.below hb⟩, h3⟩
theorem OwnTb.mono (h : OwnTb w base v xss) (hb : base' ≤ base) : OwnTb w base' v xss := by
  obtain ⟨vs, h1, h2, h3⟩ := h
  exact ⟨vs, owns_mono h1 hb, fun k xs hk => by obtain ⟨u, hu, ho⟩ := h2 k xs hk; exact ⟨u, hu, ho.mono hb⟩, h3⟩
theorem OwnTb.at {k : Nat} {xs : List Int} (h : OwnTb w base v xss) (hk : xss[k]? = some xs) : ∃ g cap u, v = .slice (some ⟨g, 0, none⟩) xss.length cap ∧ base ≤ g ∧ w.cell? ⟨g, k, none⟩ = some u ∧ (∀ j, w.frozen? ⟨g, j, none⟩ = false) ∧ OwnI 3 w base u xs := by
  obtain ⟨vs, h1, h2, _⟩ := h
  have hkl : k < xss.length := (List.getElem?_eq_some_iff.1 hk).1
  obtain ⟨p, hp, ho⟩ := h2 k xs hk
  rcases h1.2 with ⟨_, h0⟩ | ⟨g, cap, cur, rfl, hbg, _⟩
  · omega
  · exact ⟨g, cap, p, rfl, hbg, by rw [h1.cellAt _ (by omega)]; exact hp, fun j => h1.frozenAt j, ho⟩
theorem OwnTb.rows (h : OwnTb w base v xss) (hn : xss.length ≤ 4611686018427387903) (hm : ∀ xs ∈ xss, xs.length ≤ 4611686018427387903) : ∃ a c, v = .slice a xss.length c ∧ Rows2 w a xss.length xss := by
  obtain ⟨vs, h1, h2, _⟩ := h
  rcases h1.2 with ⟨rfl, h0⟩ | ⟨g, cap, cur, rfl, _, _, _, _, _, _⟩
  · have : xss = [] := List.eq_nil_of_length_eq_zero h0
    subst this
    exact ⟨none, 0, rfl, Sl.nil _ _⟩
  · refine ⟨_, cap, rfl, rfl, hn, fun k xs hk => ?_⟩
    obtain ⟨u, hu, ho⟩ := h2 k xs hk
    have hkl : k < xss.length := (List.getElem?_eq_some_iff.1 hk).1
    obtain ⟨a, c, rfl, hI⟩ := ho.ints (hm xs (List.mem_of_getElem? hk))
    exact ⟨g, 0, _, rfl, by rw [Nat.zero_add, h1.cellAt _ (by omega)]; exact hu, _, _, _, rfl, hI⟩
end
/-- ready for one more row -/
theorem OwnTb.ready {w w' : World} {base : Nat} {v u : Value} {xss : List (List Int)} {xs : List Int} (h : OwnTb w base v xss) (hbase : base ≤ w.heap.size) (hb : Below w.heap.size w w') (hu : OwnI 3 w' w.heap.size u xs) :
    ∃ vs, w'.ownsRow base 26 1 v xss.length vs ∧ ∀ w1 v' tmp, w1.ownsRow base 26 1 v' (xss.length + 1) (vs ++ [u]) → (w'.alloc tmp).grownBy w1 v.ownBlock → OwnTb w1 base v' (xss ++ [xs]) ∧ Below base w' w1 := by
  obtain ⟨vs, h1, h2, h3⟩ := h
  have h1' := owns_below h1 hb
  refine ⟨vs, h1', fun w1 v' tmp hown hg => ⟨⟨vs ++ [u], by simpa using hown, fun k ys hk => ?_, ?_⟩, ?_⟩⟩
  · have key : ∀ u' ys, OwnI 3 w' base u' ys → OwnI 3 w1 base u' ys := fun u' ys ho =>
      OwnI.kept (w := w'.alloc tmp) ⟨ho.1.alloc tmp, ho.2⟩ hg (owns_apart ho.1 h1' (by decide))
    have hl : vs.length = xss.length := by have := h1.1; omega
    rcases Nat.lt_or_ge k xss.length with hlt | hge
    · rw [List.getElem?_append_left hlt] at hk
      obtain ⟨u', hu', ho⟩ := h2 k ys hk
      exact ⟨u', by rw [List.getElem?_append_left (by omega)]; exact hu', key u' ys (ho.below hb)⟩
    · obtain ⟨hk', hke⟩ := List.getElem?_eq_some_iff.1 hk
      have hkl : k = xss.length := by simp at hk'; omega
      subst hkl
      have : ys = xs := by rw [← hke]; simp
      subst this
      exact ⟨u, by rw [List.getElem?_append_right (by omega)]; simp [hl], key u ys (hu.mono hbase)⟩
  · rw [List.pairwise_append]
    refine ⟨h3, List.pairwise_singleton _ _, fun a ha b hb' => ?_⟩
    rw [List.mem_singleton] at hb'
    subst hb'
    obtain ⟨k, hk⟩ := List.getElem?_of_mem ha
    have hl : vs.length = xss.length := by have := h1.1; omega
    have hkl : k < xss.length := by rw [← hl]; exact (List.getElem?_eq_some_iff.1 hk).1
    obtain ⟨u', hu', ho⟩ := h2 k _ (List.getElem?_eq_getElem hkl)
    rw [hk] at hu'
    cases hu'
    unfold Apart
    cases hab : a.ownBlock with
    | none => exact .inl rfl
    | some k1 =>
      refine .inr fun he => ?_
      have := owns_lt ho.1 k1 hab
      have := (hu.1.lt k1 he.symm).1
      omega
  · exact ((Below.refl base w').alloc (Nat.le_trans hbase hb.size) tmp).grown hg (by simp; have := hb.size; omega) (fun k hk => (h1'.lt k hk).1)
theorem OwnTb.empty (w : World) {base : Nat} (hw : base ≤ w.heap.size) : OwnTb (w.alloc (.cells #[] 26)) base (.slice (some ⟨w.heap.size, 0, none⟩) 0 0) [] :=
  ⟨[], World.ownsRow_made w #[] 0 hw (by simp [maxLen]) rfl, fun k x hx => by simp at hx, .nil⟩
def allocs (w : World) (l : List Obj) : World := l.foldl World.alloc w
theorem allocs_below : ∀ (l : List Obj) (w : World), Below w.heap.size w (allocs w l)
  | [], _ => Below.refl _ _
  | o :: l, w => bstep (balloc w o) (allocs_below l (w.alloc o))
theorem allocs_at : ∀ {l : List Obj} {w : World} {i : Nat} {o : Obj}, l[i]? = some o → (allocs w l).heap[w.heap.size + i]? = some o
  | [], w, i, o, h => by simp at h
  | p :: l, w, 0, o, h => by
    simp only [List.getElem?_cons_zero, Option.some.injEq] at h
    subst h
    exact ((allocs_below l (w.alloc p)).block _ (by simp)).trans (heap_fresh rfl)
  | p :: l, w, i + 1, o, h => by
    have := allocs_at (l := l) (w := w.alloc p) (i := i) (o := o) (by simpa using h)
    rw [World.size_alloc, Nat.add_assoc, Nat.add_comm 1 i] at this
    exact this
/-- values that read as a list, one by one -/
def AllV {α : Type} (R : World → Value → α → Prop) (w : World) : List Value → List α → Prop
  | [], [] => True
  | v :: vs, x :: xs => R w v x ∧ AllV R w vs xs
  | _, _ => False
theorem AllV.at {α : Type} {R : World → Value → α → Prop} {w : World} : ∀ {vs : List Value} {xs : List α}, AllV R w vs xs → ∀ (k : Nat) (x : α), xs[k]? = some x → ∃ v, vs[k]? = some v ∧ R w v x
  | [], [], _, k, x, h => by simp at h
  | v :: vs, y :: ys, ⟨h1, h2⟩, 0, x, h => by simp at h; subst h; exact ⟨v, rfl, h1⟩
  | v :: vs, y :: ys, ⟨h1, h2⟩, k + 1, x, h => by simp at h; obtain ⟨v', hv, hr⟩ := h2.at k x h; exact ⟨v', by simpa using hv, hr⟩
theorem AllV.len {α : Type} {R : World → Value → α → Prop} {w : World} : ∀ {vs : List Value} {xs : List α}, AllV R w vs xs → xs.length = vs.length
  | [], [], _ => rfl
  | v :: vs, y :: ys, ⟨_, h2⟩ => by rw [List.length_cons, List.length_cons, h2.len]
theorem sl_at {α : Type} {R : World → Value → α → Prop} {w : World} {c : Array Value} {t : TypeId} {f : Nat × Nat} {b n : Nat} {xs : List α} (hb : w.heap[b]? = some (.cells c t f)) (h : AllV R w c.toList xs) (hn : c.toList.length = n) (hs : n ≤ 4611686018427387903) : Sl R w (some ⟨b, 0, none⟩) n xs := by
  refine ⟨by rw [h.len, hn], hs, fun k x hk => ?_⟩
  obtain ⟨v, hv, hr⟩ := h.at k x hk
  exact ⟨b, 0, v, rfl, by rw [Nat.zero_add]; simp only [World.cell?, hb]; simpa using hv, hr⟩
/-- elements of m cells, one by one -/
def AllM {α : Type} (m : Nat) (R : World → Nat → Nat → α → Prop) (w : World) (b : Nat) : Nat → List α → Prop
  | _, [] => True
  | o, x :: xs => R w b o x ∧ AllM m R w b (o + m) xs
theorem AllM.at {α : Type} {m : Nat} {R : World → Nat → Nat → α → Prop} {w : World} {b : Nat} : ∀ {o : Nat} {xs : List α}, AllM m R w b o xs → ∀ (k : Nat) (x : α), xs[k]? = some x → R w b (o + k * m) x
  | o, [], _, k, x, h => by simp at h
  | o, y :: ys, ⟨h1, h2⟩, 0, x, h => by simp at h; subst h; simpa using h1
  | o, y :: ys, ⟨h1, h2⟩, k + 1, x, h => by
    simp at h
    have := h2.at k x h
    rwa [show o + m + k * m = o + (k + 1) * m by rw [Nat.succ_mul]; omega] at this
theorem slM_at {α : Type} {m : Nat} {R : World → Nat → Nat → α → Prop} {w : World} {b n : Nat} {xs : List α} (h : AllM m R w b 0 xs) (hn : xs.length = n) (hs : n ≤ 4611686018427387903) : SlM m R w (some ⟨b, 0, none⟩) n xs :=
  ⟨hn, hs, fun k x hk => ⟨b, 0, rfl, h.at k x hk⟩⟩
theorem blk_cell {w : World} {c : Array Value} {t : TypeId} {f : Nat × Nat} {b i : Nat} {v : Value} (hb : w.heap[b]? = some (.cells c t f)) (hv : c[i]? = some v) : w.cell? ⟨b, i, none⟩ = some v := by
  simp only [World.cell?, hb]; simpa using hv
end Go.Ap
