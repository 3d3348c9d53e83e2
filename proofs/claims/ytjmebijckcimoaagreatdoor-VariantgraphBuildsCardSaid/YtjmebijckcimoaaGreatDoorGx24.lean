/-
  Variant graphs: tables of rows of the call's own; groups that lie apart from a block; the steps of paths, one by one.
-/
import Derived.Test.YtjmebijckcimoaaGreatDoorMk
import Derived.Test.YtjmebijckcimoaaGreatDoorVgk
namespace Go.Ap
open Go Go.RowKit Go.Maps
/-- a store into an own row of one-cell elements -/
theorem owns_set {e : TypeId} {w : World} {base b c m n : Nat} {vs : List Value} (h : w.ownsRow base e 1 (.slice (some ⟨b, 0, none⟩) m c) n vs) (j : Nat) (z : Value) : (w.setCell ⟨b, j, none⟩ z).ownsRow base e 1 (.slice (some ⟨b, 0, none⟩) m c) n (vs.set j z) := by
  obtain ⟨h1, h2⟩ := h
  refine ⟨by simpa using h1, ?_⟩
  rcases h2 with ⟨h0, _⟩ | ⟨g, cap, cur, he, hbb, hg, r1, r2, r3, r4⟩
  · cases h0
  · simp only [Value.slice.injEq, Option.some.injEq, Addr.mk.injEq, and_true] at he
    obtain ⟨rfl, rfl, rfl⟩ := he
    refine .inr ⟨b, c, cur.setIfInBounds j z, rfl, hbb, ?_, by simpa using r1, r2, by simpa using r3, ?_⟩
    · simp [World.setCell, Array.getElem?_modify, hg]
    · rw [Array.toList_setIfInBounds, List.take_set, r4]
theorem OwnTb.made (w : World) {base : Nat} (hw : base ≤ w.heap.size) (n : Nat) (hn : n ≤ 1048576) : OwnTb (w.alloc (.cells (Array.replicate n (.slice none 0 0)) 44)) base (.slice (some ⟨w.heap.size, 0, none⟩) n n) (List.replicate n []) := by
  refine ⟨List.replicate n (.slice none 0 0), ?_, fun k xs hk => ?_, ?_⟩
  · exact ⟨by simp, .inr ⟨w.heap.size, n, Array.replicate n (.slice none 0 0), by simp, hw, heap_fresh rfl, by simp, by unfold maxLen; omega, by simp, by simp⟩⟩
  · have hkn : k < n := by have := (List.getElem?_eq_some_iff.1 hk).1; simpa using this
    rw [List.getElem?_replicate, if_pos hkn] at hk
    cases hk
    exact ⟨_, by rw [List.getElem?_replicate, if_pos hkn], World.ownsRow_nil _ _ _ _, fun x hx => by cases hx⟩
  · rw [List.pairwise_iff_getElem]
    intro i j hi hj hij
    rw [List.getElem_replicate]
    exact .inl rfl
theorem OwnTb.grow {w : World} {base g cap k : Nat} {xss : List (List Int)} {xs : List Int} (h : OwnTb w base (.slice (some ⟨g, 0, none⟩) xss.length cap) xss) (hbase : base ≤ w.heap.size) (hk : xss[k]? = some xs) :
    ∃ u, w.cell? ⟨g, k, none⟩ = some u ∧ base ≤ g ∧ OwnI 3 w base u xs ∧ ∀ (tmp : Obj) (w1 : World) (u' : Value) (x : Int), I64 x → w1.ownsRow base 3 1 u' (xs.length + 1) (xs.map (Value.int .i64) ++ [.int .i64 x]) → (w.alloc tmp).grownBy w1 u.ownBlock → (u'.ownBlock = u.ownBlock ∨ ∃ b0, w.heap.size ≤ b0 ∧ u'.ownBlock = some b0) →
      w1.cell? ⟨g, k, none⟩ = some u ∧ w1.frozen? ⟨g, k, none⟩ = false ∧ OwnTb (w1.setCell ⟨g, k, none⟩ u') base (.slice (some ⟨g, 0, none⟩) xss.length cap) (xss.set k (xs ++ [x])) ∧ Below base w (w1.setCell ⟨g, k, none⟩ u') := by
  obtain ⟨vs, h1, h2, h3⟩ := h
  obtain ⟨hkl, -⟩ := List.getElem?_eq_some_iff.1 hk
  obtain ⟨u, hu, ho⟩ := h2 k xs hk
  obtain ⟨huk, huv⟩ := List.getElem?_eq_some_iff.1 hu
  have hbg : base ≤ g := (h1.lt g rfl).1
  refine ⟨u, by rw [h1.cellAt _ (by omega)]; exact hu, hbg, ho, fun tmp w1 u' x hx hown hg hblk => ?_⟩
  have h1' := (h1.alloc tmp).kept hg (owns_apart h1 ho.1 (by decide))
  have hgs := grown_put w1 g k u'
  have hne : ∀ j (u2 : Value), vs[j]? = some u2 → j ≠ k → Apart u2 u := fun j u2 hj hjk => by
    obtain ⟨hjl, hjv⟩ := List.getElem?_eq_some_iff.1 hj
    rcases Nat.lt_or_ge j k with hlt | hge
    · have := List.pairwise_iff_getElem.1 h3 j k hjl huk hlt
      rwa [hjv, huv] at this
    · have := List.pairwise_iff_getElem.1 h3 k j huk hjl (by omega)
      rw [hjv, huv] at this
      exact apart_symm this
  have hne' : ∀ j (u2 : Value), vs[j]? = some u2 → j ≠ k → Apart u2 u' := fun j u2 hj hjk => by
    have ha := hne j u2 hj hjk
    unfold Apart at ha ⊢
    rcases hblk with hb | ⟨b0, hb0, hb⟩
    · rw [hb]; exact ha
    · have hl : vs.length = xss.length := by have := h1.1; omega
      obtain ⟨hjl, hjv⟩ := List.getElem?_eq_some_iff.1 hj
      obtain ⟨u3, hu3, ho3⟩ := h2 j _ (List.getElem?_eq_getElem (show j < xss.length by omega))
      rw [hj] at hu3
      cases hu3
      cases hb2 : u2.ownBlock with
      | none => exact .inl rfl
      | some b2 =>
        refine .inr fun e => ?_
        have h5 := owns_lt ho3.1 b2 hb2
        rw [hb] at e
        cases e
        omega
  refine ⟨by rw [h1'.cellAt _ (by omega)]; exact hu, h1'.frozenAt k, ⟨vs.set k u', by rw [List.length_set]; exact owns_set h1' k u', fun j ys hj => ?_, ?_⟩, (((Below.refl base w).alloc hbase tmp).grown hg (by simp; omega) fun r hr => (ho.1.lt r hr).1).setCell (p := ⟨g, k, none⟩) hbg _⟩
  · by_cases hjk : j = k
    · subst hjk
      rw [List.getElem?_set_self hkl] at hj
      cases hj
      refine ⟨u', by rw [List.getElem?_set_self huk], ⟨?_, fun y hy => ?_⟩⟩
      · have := hown.kept hgs (owns_apart hown h1' (by decide))
        simpa using this
      · rcases List.mem_append.1 hy with hy | hy
        · exact ho.2 y hy
        · rw [List.mem_singleton.1 hy]; exact hx
    · rw [List.getElem?_set_ne (Ne.symm hjk)] at hj
      obtain ⟨u2, hu2, ho2⟩ := h2 j ys hj
      have ho3 : OwnI 3 w1 base u2 ys := OwnI.kept (w := w.alloc tmp) ⟨ho2.1.alloc tmp, ho2.2⟩ hg (hne j u2 hu2 hjk)
      exact ⟨u2, by rw [List.getElem?_set_ne (Ne.symm hjk)]; exact hu2, ho3.kept hgs (owns_apart ho3.1 h1' (by decide))⟩
  · rw [List.pairwise_iff_getElem] at h3 ⊢
    intro i j hi hj hij
    rw [List.length_set] at hi hj
    simp only [List.getElem_set]
    by_cases hki : k = i
    · subst hki
      rw [if_pos rfl, if_neg (by omega)]
      exact apart_symm (hne' j _ (List.getElem?_eq_getElem hj) (by omega))
    · rw [if_neg hki]
      by_cases hkj : k = j
      · subst hkj
        rw [if_pos rfl]
        exact hne' i _ (List.getElem?_eq_getElem hi) (Ne.symm hki)
      · rw [if_neg hkj]
        exact h3 i j hi hj hij
section
variable {κ : Type} [DecidableEq κ]
def grpE (es : List (κ × Int)) (s : κ) : List Int := (es.filter fun e => decide (e.1 = s)).map (·.2)
theorem grpE_mem {es : List (κ × Int)} {h : κ} {m : Int} : (h, m) ∈ es ↔ m ∈ grpE es h := by
  unfold grpE
  rw [List.mem_map]
  constructor
  · intro he
    exact ⟨(h, m), List.mem_filter.2 ⟨he, by simp⟩, rfl⟩
  · rintro ⟨e, he, rfl⟩
    obtain ⟨h1, h2⟩ := List.mem_filter.1 he
    have h3 : e.1 = h := of_decide_eq_true h2
    subst h3
    exact h1
theorem grpE_add (es : List (κ × Int)) (s : κ) (xs : List Int) : updG (grpE es) s (grpE es s ++ xs) = grpE (es ++ xs.map fun x => (s, x)) := by
  funext t
  unfold updG grpE
  rw [List.filter_append, List.map_append]
  by_cases h : t = s
  · subst h
    rw [if_pos rfl]
    congr 1
    rw [List.filter_eq_self.2 (by simp), List.map_map]
    exact (List.map_id xs).symm
  · rw [if_neg h]
    have : (xs.map fun x => (s, x)).filter (fun e : κ × Int => decide (e.1 = t)) = [] := by
      rw [List.filter_eq_nil_iff]
      intro e he
      obtain ⟨x, _, rfl⟩ := List.mem_map.1 he
      simp only [decide_eq_true_eq]
      exact fun e => h e.symm
    rw [this]
    simp
theorem grpE_len (es : List (κ × Int)) (s : κ) : (grpE es s).length ≤ es.length := by
  unfold grpE
  rw [List.length_map]
  exact List.length_filter_le _ _
end
section
variable {P : Program} {t k e : TypeId} {κ : Type} {T : MapV P t k e κ}
theorem MapH.look_ok {w : World} {b n : Nat} {f : κ → Option Value} {s : κ} (h : MapH T w b n f) (hs : T.fit s) : (Instr.lookup t (.map (some b)) (T.kv s) true).run P w = .ok (.tuple #[(f s).getD T.zero, .bool (f s).isSome]) w := by
  obtain ⟨D, h1, h2, h3⟩ := h.has
  obtain ⟨u, ps, hrun, hu⟩ := h1.look_ok T.keyed T.und (T.zeroV w) (zd := .held T.zero) (zp := []) rfl (T.kl_of hs)
  rw [h2] at hu
  rw [h3] at hrun
  have hz := heldR_inv hu
  rw [hrun]
  simp only [Prod.mk.injEq] at hz
  cases hf : f s with
  | none =>
    rw [hf] at hz
    have := hz.1
    simp only [Option.map_none, Option.getD_none, DataW.held.injEq] at this
    rw [← this]
    rfl
  | some x =>
    rw [hf] at hz
    have := hz.1
    simp only [Option.map_some, Option.getD_some, DataW.held.injEq] at this
    rw [← this]
    rfl
/-- .. whose slices do not lie in block z -/
def GrpO (T : MapV P t k e κ) (ie : TypeId) (w : World) (b base n : Nat) (g : κ → List Int) (z : Option Nat) : Prop :=
  ∃ f, MapH T w b n f ∧ (∀ s, f s = none → g s = []) ∧ (∀ s v, f s = some v → OwnI ie w base v (g s) ∧ g s ≠ [] ∧ (v.ownBlock = none ∨ v.ownBlock ≠ z)) ∧ ∀ s s' v v', f s = some v → f s' = some v' → s ≠ s' → Apart v v'
variable {ie : TypeId} {w w' : World} {b base n : Nat} {g : κ → List Int} {s : κ} {z : Option Nat}
theorem GrpO.grp (h : GrpO T ie w b base n g z) : Grp T ie w b base n g := by
  obtain ⟨f, h1, h2, h3, h4⟩ := h
  exact ⟨f, h1, h2, fun s v hv => ⟨(h3 s v hv).1, (h3 s v hv).2.1⟩, h4⟩
/-- the block lies before all slices, or behind the heap -/
theorem Grp.off (h : Grp T ie w b base n g) (hz : ∀ k, z = some k → k < base ∨ w.heap.size ≤ k) : GrpO T ie w b base n g z := by
  obtain ⟨f, h1, h2, h3, h4⟩ := h
  refine ⟨f, h1, h2, fun s v hv => ⟨(h3 s v hv).1, (h3 s v hv).2, ?_⟩, h4⟩
  cases hb : v.ownBlock with
  | none => exact .inl rfl
  | some k =>
    refine .inr fun e => ?_
    have := (h3 s v hv).1.1.lt k hb
    rcases hz k e.symm with h5 | h5 <;> omega
/-- a block before all slices is written -/
theorem Grp.far (h : Grp T ie w b base n g) (hbb : base ≤ b) {row : Option Nat} (hg : w.grownBy w' row) (hk : ∀ k, row = some k → k < base) : Grp T ie w' b base n g := by
  obtain ⟨f, h1, h2, h3, h4⟩ := h
  refine ⟨f, h1.kept hg (fun e => ?_), h2, fun s v hv => ⟨(h3 s v hv).1.kept hg ?_, (h3 s v hv).2⟩, h4⟩
  · have := hk b e.symm
    omega
  · cases hb : v.ownBlock with
    | none => exact .inl rfl
    | some k =>
      refine .inr fun e => ?_
      have := (h3 s v hv).1.1.lt k hb
      have := hk k e.symm
      omega
theorem GrpO.below (h : GrpO T ie w b base n g z) (hb : Below w.heap.size w w') : GrpO T ie w' b base n g z := by
  obtain ⟨f, h1, h2, h3, h4⟩ := h
  exact ⟨f, h1.below hb, h2, fun s v hv => ⟨(h3 s v hv).1.below hb, (h3 s v hv).2⟩, h4⟩
theorem GrpO.le {m : Nat} (h : GrpO T ie w b base n g z) (hm : n ≤ m) : GrpO T ie w b base m g z := by
  obtain ⟨f, h1, h2⟩ := h
  exact ⟨f, h1.mono hm, h2⟩
theorem GrpO.lt (h : GrpO T ie w b base n g z) : b < w.heap.size := by
  obtain ⟨f, h1, _⟩ := h
  exact h1.lt
/-- 'm[k] = append(m[k], ..)' -/
theorem GrpO.entry [DecidableEq κ] (hz : T.zero = .slice none 0 0) (h : GrpO T ie w b base n g z) (hzl : ∀ k, z = some k → k < w.heap.size) (hn : n < maxLen) (hs : T.fit s) :
    ∃ u w1 st o1, (Instr.mapEntry t (.map (some b)) (T.kv s)).run P w = .ok (.tuple #[u, st]) w1 ∧ OwnI ie w1 base u (g s) ∧ w.grownBy w1 (some b) ∧ w1.heap[b]? = some o1 ∧ o1.isCells = false ∧ b < w.heap.size ∧ (u.ownBlock = none ∨ u.ownBlock ≠ z) ∧
      ∀ w2 v xs, w2.heap[b]? = some o1 → w1.grownBy w2 u.ownBlock → OwnI ie w2 base v xs → xs ≠ [] → (v.ownBlock = u.ownBlock ∨ ∃ k, w1.heap.size ≤ k ∧ v.ownBlock = some k) →
        ∃ w3, (Instr.entryStore t (.map (some b)) st v).run P w2 = .ok () w3 ∧ GrpO T ie w3 b base (n + 1) (updG g s xs) z ∧ w2.grownBy w3 (some b) := by
  obtain ⟨f, h1, h2, h3, h4⟩ := h
  obtain ⟨o0, ho0, hoc⟩ := h1.obj
  obtain ⟨w1, st, o1, r1, r2, r3, r4, r5⟩ := h1.entry hn hs
  have keep1 : ∀ x v, f x = some v → OwnI ie w1 base v (g x) := fun x v hv => (h3 x v hv).1.kept r2 (own_not (h3 x v hv).1.1 ho0 hoc)
  have hu0 : ((f s).getD T.zero).ownBlock = none ∨ ((f s).getD T.zero).ownBlock ≠ z := by
    cases hf : f s with
    | none => rw [Option.getD_none, hz]; exact .inl rfl
    | some u => exact (h3 s u hf).2.2
  refine ⟨(f s).getD T.zero, w1, st, o1, r1, ?_, r2, r3, r4, h1.lt, hu0, fun w2 v xs q1 q2 q3 q4 q5 => ?_⟩
  · cases hf : f s with
    | none => rw [h2 s hf, hz]; exact OwnI.nil _ _ _
    | some u => exact keep1 s u hf
  · obtain ⟨w3, p1, p2, p3⟩ := r5 w2 v q1
    have hvz : v.ownBlock = none ∨ v.ownBlock ≠ z := by
      rcases q5 with q5 | ⟨k, hk, q5⟩
      · rw [q5]; exact hu0
      · refine .inr fun e => ?_
        rw [q5] at e
        have := hzl k e.symm
        have := r2.size
        omega
    refine ⟨w3, p1, ⟨_, p2, fun x hx => ?_, fun x u hx => ?_, fun x y u u' hx hy hxy => ?_⟩, p3⟩
    · unfold updV at hx
      unfold updG
      by_cases hxs : x = s
      · rw [if_pos hxs] at hx; cases hx
      · rw [if_neg hxs] at hx ⊢
        exact h2 x hx
    · unfold updV at hx
      unfold updG
      by_cases hxs : x = s
      · rw [if_pos hxs] at hx ⊢
        cases hx
        exact ⟨q3.kept p3 (own_not q3.1 q1 r4), q4, hvz⟩
      · rw [if_neg hxs] at hx ⊢
        refine ⟨?_, (h3 x u hx).2⟩
        have k1 := keep1 x u hx
        have k2 : OwnI ie w2 base u (g x) := k1.kept q2 (by
          cases hf : f s with
          | none =>
            simp only [Option.getD_none, hz]
            by_cases he : u.ownBlock = none
            · exact .inl he
            · exact .inr he
          | some y =>
            simp only [Option.getD_some]
            exact h4 x s u y hx hf hxs)
        exact k2.kept p3 (own_not k2.1 q1 r4)
    · have key : ∀ x u, x ≠ s → f x = some u → u.ownBlock = none ∨ u.ownBlock ≠ v.ownBlock := fun x u hxs hx => by
        by_cases he : u.ownBlock = none
        · exact .inl he
        refine .inr fun heq => ?_
        rcases q5 with q5 | ⟨k, hk, q5⟩
        · cases hf : f s with
          | none =>
            rw [hf, Option.getD_none, hz] at q5
            rw [heq, q5] at he
            exact he rfl
          | some y =>
            rw [hf, Option.getD_some] at q5
            rcases h4 x s u y hx hf hxs with h5 | h5
            · exact he h5
            · exact h5 (heq.trans q5)
        · have := own_lt (keep1 x u hx).1 (heq.trans q5)
          omega
      unfold updV at hx hy
      by_cases hxs : x = s
      · rw [if_pos hxs] at hx
        cases hx
        rw [if_neg (fun e => hxy (hxs.trans e.symm))] at hy
        exact apart_symm (key y u' (fun e => hxy (hxs.trans e.symm)) hy)
      · rw [if_neg hxs] at hx
        by_cases hys : y = s
        · rw [if_pos hys] at hy
          cases hy
          exact key x u hxs hx
        · rw [if_neg hys] at hy
          exact h4 x y u u' hx hy hxy
end
section
variable {w w' w1 : World} {base base2 i : Nat} {tv : Value} {xss : List (List Int)}
def FromI (w : World) (base base2 : Nat) (tv : Value) (xss : List (List Int)) (i : Nat) : Prop :=
  ∃ vs : List Value, w.ownsRow base 44 1 tv xss.length vs ∧ (∀ b, tv.ownBlock = some b → b < base2) ∧ (∀ (k : Nat) (xs : List Int), i ≤ k → xss[k]? = some xs → ∃ u, vs[k]? = some u ∧ OwnI 3 w base u xs ∧ ∀ b, u.ownBlock = some b → b < base2) ∧ vs.Pairwise Apart
theorem owns_far {e : TypeId} {size n : Nat} {v : Value} {xs : List Value} (h : w.ownsRow base e size v n xs) (hb : Below base2 w w') (hl : ∀ b, v.ownBlock = some b → b < base2) : w'.ownsRow base e size v n xs := by
  obtain ⟨h1, h2⟩ := h
  refine ⟨h1, ?_⟩
  rcases h2 with h2 | ⟨g, cap, cur, rfl, hbg, hg, hr⟩
  · exact .inl h2
  · exact .inr ⟨g, cap, cur, rfl, hbg, (hb.block g (hl g rfl)).trans hg, hr⟩
theorem FromI.of (h : OwnTb w base tv xss) : FromI w base w.heap.size tv xss 0 := by
  obtain ⟨vs, h1, h2, h3⟩ := h
  exact ⟨vs, h1, fun b hb => own_lt h1 hb, fun k xs _ hk => by obtain ⟨u, hu, ho⟩ := h2 k xs hk; exact ⟨u, hu, ho, fun b hb => own_lt ho.1 hb⟩, h3⟩
theorem FromI.far (h : FromI w base base2 tv xss i) (hb : Below base2 w w') : FromI w' base base2 tv xss i := by
  obtain ⟨vs, h1, h2, h3, h4⟩ := h
  exact ⟨vs, owns_far h1 hb h2, h2, fun k xs hi hk => by obtain ⟨u, hu, ho, hl⟩ := h3 k xs hi hk; exact ⟨u, hu, ⟨owns_far ho.1 hb hl, ho.2⟩, hl⟩, h4⟩
theorem FromI.at {xs : List Int} (h : FromI w base base2 tv xss i) (hk : xss[i]? = some xs) :
    ∃ g cap u, tv = .slice (some ⟨g, 0, none⟩) xss.length cap ∧ w.cell? ⟨g, i, none⟩ = some u ∧ OwnI 3 w base u xs ∧ (∀ b, u.ownBlock = some b → b < base2) ∧
      ∀ tmp w1, (w.alloc tmp).grownBy w1 u.ownBlock → FromI w1 base base2 tv xss (i + 1) := by
  obtain ⟨vs, h1, h2, h3, h4⟩ := h
  have hkl : i < xss.length := (List.getElem?_eq_some_iff.1 hk).1
  obtain ⟨u, hu, ho, hl⟩ := h3 i xs (Nat.le_refl _) hk
  have hvl : vs.length = xss.length := by have := h1.1; omega
  have next : ∀ tmp w1, (w.alloc tmp).grownBy w1 u.ownBlock → FromI w1 base base2 tv xss (i + 1) := fun tmp w1 hg =>
    ⟨vs, (h1.alloc tmp).kept hg (owns_apart h1 ho.1 (by decide)), h2, fun j ys hj hjk => by
      obtain ⟨u2, hu2, ho2, hl2⟩ := h3 j ys (by omega) hjk
      have hap : u2.ownBlock = none ∨ u2.ownBlock ≠ u.ownBlock := by
        obtain ⟨hi1, hi2⟩ := List.getElem?_eq_some_iff.1 hu
        obtain ⟨hj1, hj2⟩ := List.getElem?_eq_some_iff.1 hu2
        have := List.pairwise_iff_getElem.1 h4 i j hi1 hj1 (by omega)
        rw [hi2, hj2] at this
        exact apart_symm this
      exact ⟨u2, hu2, OwnI.kept (w := w.alloc tmp) ⟨ho2.1.alloc tmp, ho2.2⟩ hg hap, hl2⟩, h4⟩
  rcases h1.2 with ⟨_, h0⟩ | ⟨g, cap, cur, rfl, hbg, _⟩
  · omega
  · exact ⟨g, cap, u, rfl, by rw [h1.cellAt _ (by omega)]; exact hu, ho, hl, next⟩
end
end Go.Ap
namespace Go.Ap.Vg
theorem consec_len : ∀ l : List Int, (consec l).length = l.length - 1
  | [] => rfl
  | [_] => rfl
  | a :: b :: r => by
    have := consec_len (b :: r)
    rw [show consec (a :: b :: r) = (a, b) :: consec (b :: r) from rfl, List.length_cons, this]
    simp
theorem consec_at : ∀ {l : List Int} {k : Nat} {x y : Int}, l[k]? = some x → l[k + 1]? = some y → (consec l)[k]? = some (x, y)
  | [], k, x, y, h, _ => by simp at h
  | [a], k, x, y, _, h => by simp at h
  | a :: b :: r, 0, x, y, h, h' => by
    simp only [List.getElem?_cons_zero, Option.some.injEq, List.getElem?_cons_succ] at h h'
    subst h h'
    rfl
  | a :: b :: r, k + 1, x, y, h, h' => by
    rw [show consec (a :: b :: r) = (a, b) :: consec (b :: r) from rfl, List.getElem?_cons_succ]
    exact consec_at (by simpa using h) (by simpa using h')
/-- the steps of the paths below i, and the first k of path i -/
def stepsN (ps : List (List Int)) (i k : Nat) : List (En × Int) := ((List.range i).flatMap fun j => (consec (ps.getD j [])).map fun x => (x, (j : Int))) ++ ((consec (ps.getD i [])).take k).map fun x => (x, (i : Int))
theorem stepsN_zero (ps : List (List Int)) : stepsN ps 0 0 = [] := by simp [stepsN]
theorem stepsN_all (ps : List (List Int)) : stepsN ps ps.length 0 = stepsP ps := by simp [stepsN, stepsP]
theorem stepsN_next {ps : List (List Int)} {i : Nat} {l : List Int} (h : ps[i]? = some l) : stepsN ps i (l.length - 1) = stepsN ps (i + 1) 0 := by
  have hl : ps.getD i [] = l := by simp [List.getD, h]
  unfold stepsN
  rw [List.range_succ, List.flatMap_append, hl, List.take_of_length_le (by rw [consec_len]; exact Nat.le_refl _)]
  simp [List.getD, h]
theorem stepsN_snoc {ps : List (List Int)} {i k : Nat} {l : List Int} {x y : Int} (h : ps[i]? = some l) (hx : l[k]? = some x) (hy : l[k + 1]? = some y) : stepsN ps i (k + 1) = stepsN ps i k ++ [((x, y), (i : Int))] := by
  have hl : ps.getD i [] = l := by simp [List.getD, h]
  unfold stepsN
  rw [hl, List.take_add_one, consec_at hx hy, List.map_append, List.append_assoc]
  rfl
theorem stepsN_len {ps : List (List Int)} {m : Nat} (h : ∀ l ∈ ps, l.length ≤ m + 1) : ∀ i k, (stepsN ps i k).length ≤ i * m + m := fun i k => by
  have h1 : ∀ j, (consec (ps.getD j [])).length ≤ m := fun j => by
    rw [consec_len]
    rcases Nat.lt_or_ge j ps.length with hj | hj
    · have : ps.getD j [] = ps[j] := by simp [List.getD, hj]
      rw [this]
      have := h ps[j] (List.getElem_mem hj)
      omega
    · have : ps.getD j [] = [] := by simp [List.getD, List.getElem?_eq_none hj]
      rw [this]
      simp
  have h2 : ∀ i, ((List.range i).flatMap fun j => (consec (ps.getD j [])).map fun x => (x, (j : Int))).length ≤ i * m := fun i => by
    induction i with
    | zero => simp
    | succ i ih =>
      rw [List.range_succ, List.flatMap_append, List.length_append, Nat.succ_mul]
      have := h1 i
      simp only [List.flatMap_cons, List.flatMap_nil, List.append_nil, List.length_map]
      omega
  unfold stepsN
  rw [List.length_append, List.length_map]
  have := h2 i
  have := h1 i
  have := List.length_take_le k (consec (ps.getD i []))
  have : ((consec (ps.getD i [])).take k).length ≤ (consec (ps.getD i [])).length := by rw [List.length_take]; omega
  omega
end Go.Ap.Vg
