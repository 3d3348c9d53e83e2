/-
  Words on slices that a call made itself: a row of ints, a row of rows of ints, each in a block of its own; appended to, stored into.
-/
import Derived.Test.YtbcnbchpcbglhaaPlain
import Derived.RangeFuncBox
import Derived.Maps.AppendAt
namespace Go.Ap
open Go Go.RowKit

section
variable {w w' : World} {base base' : Nat} {e e' : TypeId} {size size' : Nat} {v v' : Value} {n n' : Nat} {xs xs' : List Value}
theorem owns_below (h : w.ownsRow base e size v n xs) (hb : Below w.heap.size w w') : w'.ownsRow base e size v n xs := by
  refine ⟨h.1, ?_⟩
  rcases h.2 with hn | ⟨g, cap, cur, rfl, hbb, hgg, rest⟩
  · exact .inl hn
  · exact .inr ⟨g, cap, cur, rfl, hbb, (hb.block g (Array.getElem?_eq_some_iff.1 hgg).1).trans hgg, rest⟩
theorem owns_mono (h : w.ownsRow base e size v n xs) (hb : base' ≤ base) : w.ownsRow base' e size v n xs := by
  refine ⟨h.1, ?_⟩
  rcases h.2 with hn | ⟨g, cap, cur, rfl, hbb, hgg, rest⟩
  · exact .inl hn
  · exact .inr ⟨g, cap, cur, rfl, by omega, hgg, rest⟩
theorem owns_apart (h : w.ownsRow base e size v n xs) (h' : w.ownsRow base' e' size' v' n' xs') (hne : e ≠ e') : v.ownBlock = none ∨ v.ownBlock ≠ v'.ownBlock := by
  rcases h.2 with ⟨rfl, _⟩ | ⟨g, cap, cur, rfl, _, hg, _⟩
  · exact .inl rfl
  · rcases h'.2 with ⟨rfl, _⟩ | ⟨g', cap', cur', rfl, _, hg', _⟩
    · exact .inr (by simp [Value.ownBlock])
    · refine .inr fun he => hne ?_
      obtain rfl : g = g' := by simpa [Value.ownBlock] using he
      rw [hg] at hg'
      simp at hg'
      exact hg'.2
theorem owns_lt (h : w.ownsRow base e size v n xs) : ∀ k, v.ownBlock = some k → k < w.heap.size := fun k hk => (h.lt k hk).2
end

/-- a slice of ints of the call's own -/
def OwnI (e : TypeId) (w : World) (base : Nat) (v : Value) (xs : List Int) : Prop := w.ownsRow base e 1 v xs.length (xs.map (Value.int .i64)) ∧ ∀ x ∈ xs, I64 x
section
variable {e t : TypeId} {w w' w1 : World} {base base' : Nat} {v u v' : Value} {xs : List Int}
theorem OwnI.below (h : OwnI e w base v xs) (hb : Below w.heap.size w w') : OwnI e w' base v xs := ⟨owns_below h.1 hb, h.2⟩
theorem OwnI.mono (h : OwnI e w base v xs) (hb : base' ≤ base) : OwnI e w base' v xs := ⟨owns_mono h.1 hb, h.2⟩
theorem OwnI.kept {row : Option Nat} (h : OwnI e w base v xs) (hg : w.grownBy w' row) (hne : v.ownBlock = none ∨ v.ownBlock ≠ row) : OwnI e w' base v xs := ⟨h.1.kept hg hne, h.2⟩
theorem OwnI.nil (e : TypeId) (w : World) (base : Nat) : OwnI e w base (.slice none 0 0) [] := ⟨World.ownsRow_nil _ _ _ _, fun x hx => by cases hx⟩
theorem OwnI.empty (e : TypeId) (w : World) {base : Nat} (hw : base ≤ w.heap.size) : OwnI e (w.alloc (.cells #[] e)) base (.slice (some ⟨w.heap.size, 0, none⟩) 0 0) [] :=
  ⟨World.ownsRow_made w #[] 0 hw (by simp [maxLen]) rfl, fun x hx => by cases hx⟩
theorem OwnI.ints (h : OwnI e w base v xs) (hn : xs.length ≤ 4611686018427387903) : ∃ a c, v = .slice a xs.length c ∧ Ints w a xs.length xs := ints_of_owns h.1 h.2 hn
/-- what append leaves -/
theorem OwnI.pushed {x : Int} {tmp : Obj} (h : OwnI e w base v xs) (hx : I64 x) (hb : base ≤ w.heap.size) (hown : w1.ownsRow base e 1 v' (xs.length + 1) (xs.map (Value.int .i64) ++ [.int .i64 x])) (hg : (w.alloc tmp).grownBy w1 v.ownBlock) :
    OwnI e w1 base v' (xs ++ [x]) ∧ Below base w w1 := by
  refine ⟨⟨by simpa using hown, fun y hy => ?_⟩, ((Below.refl base w).alloc hb tmp).grown hg (by simp; omega) (fun k hk => (h.1.lt k hk).1)⟩
  rcases List.mem_append.1 hy with h1 | h1
  · exact h.2 y h1
  · rw [List.mem_singleton] at h1; subst h1; exact hx

def Apart (u v : Value) : Prop := u.ownBlock = none ∨ u.ownBlock ≠ v.ownBlock
/-- a slice of slices of ints, all of the call's own, no two in one block -/
def OwnRR (e t : TypeId) (w : World) (base : Nat) (v : Value) (xss : List (List Int)) : Prop :=
  ∃ vs : List Value, w.ownsRow base t 1 v xss.length vs ∧ (∀ (k : Nat) (xs : List Int), xss[k]? = some xs → ∃ u, vs[k]? = some u ∧ OwnI e w base u xs) ∧ vs.Pairwise Apart
theorem OwnRR.below {xss : List (List Int)} (h : OwnRR e t w base v xss) (hb : Below w.heap.size w w') : OwnRR e t w' base v xss := by
  obtain ⟨vs, h1, h2, h3⟩ := h
  exact ⟨vs, owns_below h1 hb, fun k xs hk => by obtain ⟨u, hu, ho⟩ := h2 k xs hk; exact ⟨u, hu, ho.below hb⟩, h3⟩
theorem OwnRR.nil (e t : TypeId) (w : World) (base : Nat) : OwnRR e t w base (.slice none 0 0) [] := ⟨[], World.ownsRow_nil _ _ _ _, fun k x hx => by simp at hx, .nil⟩
theorem OwnRR.empty (e t : TypeId) (w : World) {base : Nat} (hw : base ≤ w.heap.size) : OwnRR e t (w.alloc (.cells #[] t)) base (.slice (some ⟨w.heap.size, 0, none⟩) 0 0) [] :=
  ⟨[], World.ownsRow_made w #[] 0 hw (by simp [maxLen]) rfl, fun k x hx => by simp at hx, .nil⟩
/-- ready for one more row, where what the call owns is carried from one world to another -/
theorem OwnRR.carried {xss : List (List Int)} (hte : t ≠ e) (h : OwnRR e t w base v xss) (hbase : base ≤ w.heap.size) (hcar : ∀ e' v n xs, (e' = e ∨ e' = t) → w.ownsRow base e' 1 v n xs → w'.ownsRow base e' 1 v n xs) (hsize : w.heap.size ≤ w'.heap.size) (hu : OwnI e w' w.heap.size u xs) :
    ∃ vs, w'.ownsRow base t 1 v xss.length vs ∧ ∀ w1 v' tmp, w1.ownsRow base t 1 v' (xss.length + 1) (vs ++ [u]) → (w'.alloc tmp).grownBy w1 v.ownBlock → OwnRR e t w1 base v' (xss ++ [xs]) ∧ Below base w' w1 := by
  obtain ⟨vs, h1, h2, h3⟩ := h
  have h1' := hcar t _ _ _ (.inr rfl) h1
  have hI : ∀ u ys, OwnI e w base u ys → OwnI e w' base u ys := fun u ys ho => ⟨hcar e _ _ _ (.inl rfl) ho.1, ho.2⟩
  refine ⟨vs, h1', fun w1 v' tmp hown hg => ⟨⟨vs ++ [u], by simpa using hown, fun k ys hk => ?_, ?_⟩, ?_⟩⟩
  · have key : ∀ u' ys, OwnI e w' base u' ys → OwnI e w1 base u' ys := fun u' ys ho =>
      OwnI.kept (w := w'.alloc tmp) (OwnI.kept ho (World.grownBy_alloc w' tmp none) (by cases u'.ownBlock <;> simp)) hg (owns_apart ho.1 h1' hte.symm)
    have hl : vs.length = xss.length := by have := h1.1; omega
    rcases Nat.lt_or_ge k xss.length with hlt | hge
    · rw [List.getElem?_append_left hlt] at hk
      obtain ⟨u', hu', ho⟩ := h2 k ys hk
      exact ⟨u', by rw [List.getElem?_append_left (by omega)]; exact hu', key u' ys (hI u' ys ho)⟩
    · obtain ⟨hk', hke⟩ := List.getElem?_eq_some_iff.1 hk
      have hkl : k = xss.length := by simp at hk'; omega
      subst hkl
      have : ys = xs := by rw [← hke]; simp
      subst this
      exact ⟨u, by rw [List.getElem?_append_right (by omega)]; simp [hl], key u ys (hu.mono hbase)⟩
  · rw [List.pairwise_append]
    refine ⟨h3, List.pairwise_singleton _ _, fun a ha b hb' => ?_⟩
    rw [List.mem_singleton] at hb'
    subst hb'
    obtain ⟨k, hk⟩ := List.getElem?_of_mem ha
    have hl : vs.length = xss.length := by have := h1.1; omega
    have hkl : k < xss.length := by rw [← hl]; exact (List.getElem?_eq_some_iff.1 hk).1
    obtain ⟨u', hu', ho⟩ := h2 k _ (List.getElem?_eq_getElem hkl)
    rw [hk] at hu'
    cases hu'
    unfold Apart
    cases hab : a.ownBlock with
    | none => exact .inl rfl
    | some k1 =>
      refine .inr fun he => ?_
      have := owns_lt ho.1 k1 hab
      have := (hu.1.lt k1 he.symm).1
      omega
  · exact ((Below.refl base w').alloc (Nat.le_trans hbase hsize) tmp).grown hg (by simp; omega) (fun k hk => (h1'.lt k hk).1)
/-- ready for one more row -/
theorem OwnRR.ready {xss : List (List Int)} (hte : t ≠ e) (h : OwnRR e t w base v xss) (hbase : base ≤ w.heap.size) (hb : Below w.heap.size w w') (hu : OwnI e w' w.heap.size u xs) :
    ∃ vs, w'.ownsRow base t 1 v xss.length vs ∧ ∀ w1 v' tmp, w1.ownsRow base t 1 v' (xss.length + 1) (vs ++ [u]) → (w'.alloc tmp).grownBy w1 v.ownBlock → OwnRR e t w1 base v' (xss ++ [xs]) ∧ Below base w' w1 :=
  h.carried hte hbase (fun _ _ _ _ _ ho => owns_below ho hb) hb.size hu
theorem OwnRR.rows {xss : List (List Int)} (h : OwnRR e t w base v xss) (hn : xss.length ≤ 4611686018427387903) (hm : ∀ xs ∈ xss, xs.length ≤ 4611686018427387903) : ∃ a c, v = .slice a xss.length c ∧ Rows2 w a xss.length xss := by
  obtain ⟨vs, h1, h2, _⟩ := h
  rcases h1.2 with ⟨rfl, h0⟩ | ⟨g, cap, cur, rfl, _, _, _, _, _, _⟩
  · have : xss = [] := List.eq_nil_of_length_eq_zero h0
    subst this
    exact ⟨none, 0, rfl, Sl.nil _ _⟩
  · refine ⟨_, cap, rfl, rfl, hn, fun k xs hk => ?_⟩
    obtain ⟨u, hu, ho⟩ := h2 k xs hk
    have hc := h1.cells (g := g) rfl k u hu
    have hadd : (⟨g, 0, none⟩ : Addr).add k = ⟨g, 0 + k, none⟩ := by unfold Addr.add; split <;> simp_all
    rw [hadd] at hc
    obtain ⟨a, c, rfl, hI⟩ := ho.ints (hm xs (List.mem_of_getElem? hk))
    exact ⟨g, 0, _, rfl, hc, _, _, _, rfl, hI⟩

theorem grownBy_setAt (W : World) (b j : Nat) (v : Value) : W.grownBy (W.setCell ⟨b, j, none⟩ v) (some b) :=
  ⟨rfl, rfl, rfl, by simp [World.setCell], fun k _ hk => Below.heap_setCell _ _ _ k (fun e => hk (by rw [e]))⟩
/-- a store into a row of ints -/
theorem OwnI.set {b c : Nat} {m : Nat} (h : OwnI e w base (.slice (some ⟨b, 0, none⟩) m c) xs) {j : Nat} {z : Int} (hz : I64 z) : OwnI e (w.setCell ⟨b, j, none⟩ (.int .i64 z)) base (.slice (some ⟨b, 0, none⟩) m c) (xs.set j z) := by
  obtain ⟨⟨h1, h2⟩, h3⟩ := h
  refine ⟨⟨by simp, ?_⟩, fun x hx => ?_⟩
  · rcases h2 with ⟨h0, _⟩ | ⟨g, cap, cur, he, hbb, hg, r1, r2, r3, r4⟩
    · cases h0
    · simp only [Value.slice.injEq, Option.some.injEq, Addr.mk.injEq, and_true] at he
      obtain ⟨rfl, rfl, rfl⟩ := he
      refine .inr ⟨b, c, cur.setIfInBounds j (.int .i64 z), by simp, hbb, ?_, by simpa using r1, r2, by simpa using r3, ?_⟩
      · simp [World.setCell, Array.getElem?_modify, hg]
      · rw [List.length_set, Array.toList_setIfInBounds, List.take_set, r4, List.map_set]
  · rcases List.mem_or_eq_of_mem_set hx with h | rfl
    · exact h3 x h
    · exact hz
theorem OwnI.cell {b c m : Nat} (h : OwnI e w base (.slice (some ⟨b, 0, none⟩) m c) xs) {j : Nat} (hj : j < xs.length) : w.cell? ⟨b, j, none⟩ = some (.int .i64 (nth xs j)) ∧ w.frozen? ⟨b, j, none⟩ = false ∧ base ≤ b := by
  rcases h.1.2 with ⟨h0, _⟩ | ⟨g, cap, cur, he, hbb, hg, r1, r2, r3, r4⟩
  · cases h0
  · simp only [Value.slice.injEq, Option.some.injEq, Addr.mk.injEq, and_true] at he
    obtain ⟨rfl, rfl, rfl⟩ := he
    have hc := h.1.cells (g := b) rfl j (.int .i64 (nth xs j)) (by simp [hj, nth_eq hj])
    have hadd : (⟨b, 0, none⟩ : Addr).add j = ⟨b, j, none⟩ := by unfold Addr.add; split <;> simp_all
    rw [hadd] at hc
    exact ⟨hc, by simp [World.frozen?, hg], hbb⟩
theorem OwnI.addr (h : OwnI e w base v xs) (hn : 0 < xs.length) : ∃ b c, v = .slice (some ⟨b, 0, none⟩) xs.length c := by
  rcases h.1.2 with ⟨_, h0⟩ | ⟨g, cap, _, rfl, _⟩
  · omega
  · exact ⟨g, cap, rfl⟩
theorem OwnRR.addr {xss : List (List Int)} (h : OwnRR e t w base v xss) (hn : 0 < xss.length) : ∃ b c, v = .slice (some ⟨b, 0, none⟩) xss.length c := by
  obtain ⟨vs, h1, _⟩ := h
  rcases h1.2 with ⟨_, h0⟩ | ⟨g, cap, _, rfl, _⟩
  · omega
  · exact ⟨g, cap, rfl⟩
/-- a store into one row -/
theorem OwnRR.setAt {xss : List (List Int)} {g m c : Nat} (hte : t ≠ e) (h : OwnRR e t w base (.slice (some ⟨g, 0, none⟩) m c) xss) {k : Nat} (hk : k < xss.length) {j : Nat} (hj : j < (row xss k).length) (z : Int) (hz : I64 z) :
    ∃ b c', w.cell? ⟨g, k, none⟩ = some (.slice (some ⟨b, 0, none⟩) (row xss k).length c') ∧ w.cell? ⟨b, j, none⟩ = some (.int .i64 (nth (row xss k) j)) ∧ w.frozen? ⟨b, j, none⟩ = false ∧ base ≤ b ∧
      OwnRR e t (w.setCell ⟨b, j, none⟩ (.int .i64 z)) base (.slice (some ⟨g, 0, none⟩) m c) (xss.set k ((row xss k).set j z)) := by
  obtain ⟨vs, h1, h2, h3⟩ := h
  obtain ⟨u, hu, ho⟩ := h2 k (row xss k) (by rw [row_eq hk]; exact List.getElem?_eq_getElem hk)
  have hc := h1.cells (g := g) rfl k u hu
  have hadd : (⟨g, 0, none⟩ : Addr).add k = ⟨g, k, none⟩ := by unfold Addr.add; split <;> simp_all
  rw [hadd] at hc
  obtain ⟨b, c', rfl⟩ := ho.addr (by omega)
  obtain ⟨i1, i2, i3⟩ := ho.cell hj
  have hgr := grownBy_setAt w b j (.int .i64 z)
  refine ⟨b, c', hc, i1, i2, i3, vs, ?_, fun k' xs' hk' => ?_, h3⟩
  · rw [List.length_set]
    exact h1.kept hgr (owns_apart h1 ho.1 hte)
  · by_cases he : k' = k
    · subst he
      rw [List.getElem?_set_self hk] at hk'
      cases hk'
      exact ⟨_, hu, ho.set hz⟩
    · rw [List.getElem?_set_ne (Ne.symm he)] at hk'
      obtain ⟨u', hu', ho'⟩ := h2 k' xs' hk'
      refine ⟨u', hu', ho'.kept hgr ?_⟩
      obtain ⟨hl1, hg1⟩ := List.getElem?_eq_some_iff.1 hu
      obtain ⟨hl2, hg2⟩ := List.getElem?_eq_some_iff.1 hu'
      have hpw := List.pairwise_iff_getElem.1 h3
      rcases Nat.lt_or_ge k k' with hlt | hge
      · have := hpw k k' hl1 hl2 hlt
        rw [hg1, hg2] at this
        rcases this with h | h
        · cases h
        · exact .inr (fun h' => h h'.symm)
      · have := hpw k' k hl2 hl1 (by omega)
        rw [hg1, hg2] at this
        exact this
end
end Go.Ap
