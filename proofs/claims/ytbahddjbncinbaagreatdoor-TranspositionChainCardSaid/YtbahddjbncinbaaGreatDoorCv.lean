/-
  The greedy cover.
-/
import Derived.Test.YtbahddjbncinbaaGreatDoorIn
namespace Go.Ap
open Go Go.RowKit
/-- a store into an own row of one-cell elements -/
theorem owns_set {e : TypeId} {w : World} {base b c m n : Nat} {vs : List Value} (h : w.ownsRow base e 1 (.slice (some ⟨b, 0, none⟩) m c) n vs) (j : Nat) (z : Value) : (w.setCell ⟨b, j, none⟩ z).ownsRow base e 1 (.slice (some ⟨b, 0, none⟩) m c) n (vs.set j z) := by
  obtain ⟨h1, h2⟩ := h
  refine ⟨by simpa using h1, ?_⟩
  rcases h2 with ⟨h0, _⟩ | ⟨g, cap, cur, he, hbb, hg, r1, r2, r3, r4⟩
  · cases h0
  · simp only [Value.slice.injEq, Option.some.injEq, Addr.mk.injEq, and_true] at he
    obtain ⟨rfl, rfl, rfl⟩ := he
    refine .inr ⟨b, c, cur.setIfInBounds j z, rfl, hbb, ?_, by simpa using r1, r2, by simpa using r3, ?_⟩
    · simp [World.setCell, Array.getElem?_modify, hg]
    · rw [Array.toList_setIfInBounds, List.take_set, r4]
/-- 'out[k] = append(out[k], x)' -/
theorem OwnTb.grow {w : World} {base g cap k : Nat} {xss : List (List Int)} {xs : List Int} (h : OwnTb w base (.slice (some ⟨g, 0, none⟩) xss.length cap) xss) (hbase : base ≤ w.heap.size) (hk : xss[k]? = some xs) :
    ∃ u, w.cell? ⟨g, k, none⟩ = some u ∧ base ≤ g ∧ OwnI 3 w base u xs ∧ ∀ (tmp : Obj) (w1 : World) (u' : Value) (x : Int), I64 x → w1.ownsRow base 3 1 u' (xs.length + 1) (xs.map (Value.int .i64) ++ [.int .i64 x]) → (w.alloc tmp).grownBy w1 u.ownBlock → (u'.ownBlock = u.ownBlock ∨ u'.ownBlock = some (w.alloc tmp).heap.size) →
      w1.cell? ⟨g, k, none⟩ = some u ∧ w1.frozen? ⟨g, k, none⟩ = false ∧ OwnTb (w1.setCell ⟨g, k, none⟩ u') base (.slice (some ⟨g, 0, none⟩) xss.length cap) (xss.set k (xs ++ [x])) ∧ Below base w (w1.setCell ⟨g, k, none⟩ u') := by
  obtain ⟨vs, h1, h2, h3⟩ := h
  obtain ⟨hkl, -⟩ := List.getElem?_eq_some_iff.1 hk
  obtain ⟨u, hu, ho⟩ := h2 k xs hk
  obtain ⟨huk, huv⟩ := List.getElem?_eq_some_iff.1 hu
  have hbg : base ≤ g := (h1.lt g rfl).1
  refine ⟨u, by rw [h1.cellAt _ (by omega)]; exact hu, hbg, ho, fun tmp w1 u' x hx hown hg hblk => ?_⟩
  have h1' := (h1.alloc tmp).kept hg (owns_apart h1 ho.1 (by decide))
  have hgs := grown_put w1 g k u'
  have hne : ∀ j (u2 : Value), vs[j]? = some u2 → j ≠ k → Apart u2 u := fun j u2 hj hjk => by
    obtain ⟨hjl, hjv⟩ := List.getElem?_eq_some_iff.1 hj
    rcases Nat.lt_or_ge j k with hlt | hge
    · have := List.pairwise_iff_getElem.1 h3 j k hjl huk hlt
      rwa [hjv, huv] at this
    · have := List.pairwise_iff_getElem.1 h3 k j huk hjl (by omega)
      rw [hjv, huv] at this
      exact apart_symm this
  have hne' : ∀ j (u2 : Value), vs[j]? = some u2 → j ≠ k → Apart u2 u' := fun j u2 hj hjk => by
    have ha := hne j u2 hj hjk
    unfold Apart at ha ⊢
    rcases hblk with hb | hb
    · rw [hb]; exact ha
    · have hl : vs.length = xss.length := by have := h1.1; omega
      obtain ⟨hjl, hjv⟩ := List.getElem?_eq_some_iff.1 hj
      obtain ⟨u3, hu3, ho3⟩ := h2 j _ (List.getElem?_eq_getElem (show j < xss.length by omega))
      rw [hj] at hu3
      cases hu3
      cases hb2 : u2.ownBlock with
      | none => exact .inl rfl
      | some b2 =>
        refine .inr fun e => ?_
        have h5 := owns_lt ho3.1 b2 hb2
        rw [hb] at e
        cases e
        rw [World.size_alloc] at h5
        omega
  refine ⟨by rw [h1'.cellAt _ (by omega)]; exact hu, h1'.frozenAt k, ⟨vs.set k u', by rw [List.length_set]; exact owns_set h1' k u', fun j ys hj => ?_, ?_⟩, (((Below.refl base w).alloc hbase tmp).grown hg (by simp; omega) fun r hr => (ho.1.lt r hr).1).setCell (p := ⟨g, k, none⟩) hbg _⟩
  · by_cases hjk : j = k
    · subst hjk
      rw [List.getElem?_set_self hkl] at hj
      cases hj
      refine ⟨u', by rw [List.getElem?_set_self huk], ⟨?_, fun y hy => ?_⟩⟩
      · have := hown.kept hgs (owns_apart hown h1' (by decide))
        simpa using this
      · rcases List.mem_append.1 hy with hy | hy
        · exact ho.2 y hy
        · rw [List.mem_singleton.1 hy]; exact hx
    · rw [List.getElem?_set_ne (Ne.symm hjk)] at hj
      obtain ⟨u2, hu2, ho2⟩ := h2 j ys hj
      have ho3 : OwnI 3 w1 base u2 ys := OwnI.kept (w := w.alloc tmp) ⟨ho2.1.alloc tmp, ho2.2⟩ hg (hne j u2 hu2 hjk)
      exact ⟨u2, by rw [List.getElem?_set_ne (Ne.symm hjk)]; exact hu2, ho3.kept hgs (owns_apart ho3.1 h1' (by decide))⟩
  · rw [List.pairwise_iff_getElem] at h3 ⊢
    intro i j hi hj hij
    rw [List.length_set] at hi hj
    simp only [List.getElem_set]
    by_cases hki : k = i
    · subst hki
      rw [if_pos rfl, if_neg (by omega)]
      exact apart_symm (hne' j _ (List.getElem?_eq_getElem hj) (by omega))
    · rw [if_neg hki]
      by_cases hkj : k = j
      · subst hkj
        rw [if_pos rfl]
        exact hne' i _ (List.getElem?_eq_getElem hi) (Ne.symm hki)
      · rw [if_neg hkj]
        exact h3 i j hi hj hij
end Go.Ap
