/-
  A table that a call makes itself: a row of slices of ints, each slice a row of the call's own; states of sources: plain.
-/
import Derived.Test.YthfppkcefnmdoaaGreatDoorNg
import Derived.Test.YthfppkcefnmdoaaGreatDoorPU
import Derived.Test.YthfppkcefnmdoaaGreatDoorFu
namespace Go.Ap
open Go Go.RowKit
section
variable {w w' w1 : World} {base base' : Nat} {v u : Value} {xss : List (List Int)}
/-- a slice of slices of ints, all of the call's own, no two in one block -/
def OwnTb (w : World) (base : Nat) (v : Value) (xss : List (List Int)) : Prop :=
  ∃ vs : List Value, w.ownsRow base 37 1 v xss.length vs ∧ (∀ (k : Nat) (xs : List Int), xss[k]? = some xs → ∃ u, vs[k]? = some u ∧ OwnI 3 w base u xs) ∧ vs.Pairwise Apart
theorem OwnTb.below (h : OwnTb w base v xss) (hb : Below w.heap.size w w') : OwnTb w' base v xss := by
  obtain ⟨vs, h1, h2, h3⟩ := h
  exact ⟨vs, owns_below h1 hb, fun k xs hk => by obtain ⟨u, hu, ho⟩ := h2 k xs hk; exact ⟨u, hu, ho.below hb⟩, h3⟩
theorem OwnTb.mono (h : OwnTb w base v xss) (hb : base' ≤ base) : OwnTb w base' v xss := by
  obtain ⟨vs, h1, h2, h3⟩ := h
  exact ⟨vs, owns_mono h1 hb, fun k xs hk => by obtain ⟨u, hu, ho⟩ := h2 k xs hk; exact ⟨u, hu, ho.mono hb⟩, h3⟩
theorem OwnTb.made (w : World) {base : Nat} (hw : base ≤ w.heap.size) (n : Nat) (hn : n ≤ 1048576) : OwnTb (w.alloc (.cells (Array.replicate n (.slice none 0 0)) 37)) base (.slice (some ⟨w.heap.size, 0, none⟩) n n) (List.replicate n []) := by
  refine ⟨List.replicate n (.slice none 0 0), ?_, fun k xs hk => ?_, ?_⟩
  · exact ⟨by simp, .inr ⟨w.heap.size, n, Array.replicate n (.slice none 0 0), by simp, hw, heap_fresh rfl, by simp, by unfold maxLen; omega, by simp, by simp⟩⟩
  · have hkn : k < n := by have := (List.getElem?_eq_some_iff.1 hk).1; simpa using this
    rw [List.getElem?_replicate, if_pos hkn] at hk
    cases hk
    exact ⟨_, by rw [List.getElem?_replicate, if_pos hkn], World.ownsRow_nil _ _ _ _, fun x hx => by cases hx⟩
  · rw [List.pairwise_iff_getElem]
    intro i j hi hj hij
    rw [List.getElem_replicate]
    exact .inl rfl
theorem OwnTb.at {k : Nat} {xs : List Int} (h : OwnTb w base v xss) (hk : xss[k]? = some xs) : ∃ g cap u, v = .slice (some ⟨g, 0, none⟩) xss.length cap ∧ base ≤ g ∧ w.cell? ⟨g, k, none⟩ = some u ∧ (∀ j, w.frozen? ⟨g, j, none⟩ = false) ∧ OwnI 3 w base u xs := by
  obtain ⟨vs, h1, h2, _⟩ := h
  have hkl : k < xss.length := (List.getElem?_eq_some_iff.1 hk).1
  obtain ⟨p, hp, ho⟩ := h2 k xs hk
  rcases h1.2 with ⟨_, h0⟩ | ⟨g, cap, cur, rfl, hbg, _⟩
  · omega
  · exact ⟨g, cap, p, rfl, hbg, by rw [h1.cellAt _ (by omega)]; exact hp, fun j => h1.frozenAt j, ho⟩
/-- one more number of row k: what stays, what is stored -/
theorem OwnTb.more {k : Nat} {xs : List Int} {g cap : Nat} {z z2 : Value} {x : Int} {tmp : Obj} (h : OwnTb w base (.slice (some ⟨g, 0, none⟩) xss.length cap) xss) (hbase : base ≤ w.heap.size) (hk : xss[k]? = some xs) (hz : w.cell? ⟨g, k, none⟩ = some z) (hx : I64 x)
    (hown : w1.ownsRow base 3 1 z2 (xs.length + 1) (xs.map (Value.int .i64) ++ [.int .i64 x])) (hg : (w.alloc tmp).grownBy w1 z.ownBlock) (hblk : z2.ownBlock = z.ownBlock ∨ z2.ownBlock = some (w.alloc tmp).heap.size) :
    (w1.cell? ⟨g, k, none⟩ = some z ∧ w1.frozen? ⟨g, k, none⟩ = false ∧ some g ≠ z.ownBlock) ∧
    OwnTb (w1.setCell ⟨g, k, none⟩ z2) base (.slice (some ⟨g, 0, none⟩) xss.length cap) (xss.set k (xs ++ [x])) ∧ Below base w (w1.setCell ⟨g, k, none⟩ z2) := by
  obtain ⟨vs, h1, h2, h3⟩ := h
  have hl : vs.length = xss.length := by have := h1.1; omega
  have hkl : k < xss.length := (List.getElem?_eq_some_iff.1 hk).1
  obtain ⟨p, hp, hi⟩ := h2 k xs hk
  have hpz : p = z := by
    rw [h1.cellAt _ (by omega), hp] at hz
    exact Option.some.inj hz
  subst hpz
  have hgl := h1.lt g rfl
  have hR1 : w1.ownsRow base 37 1 (.slice (some ⟨g, 0, none⟩) xss.length cap) xss.length vs := (h1.alloc tmp).kept hg (owns_apart h1 hi.1 (by decide))
  obtain ⟨hR2, hG2⟩ := hR1.stored k z2
  have kI : ∀ y ys, OwnI 3 w base y ys → Apart y p → OwnI 3 (w1.setCell ⟨g, k, none⟩ z2) base y ys := fun y ys hy ha => by
    have a1 : OwnI 3 w1 base y ys := OwnI.kept (w := w.alloc tmp) ⟨hy.1.alloc tmp, hy.2⟩ hg ha
    exact a1.kept hG2 (owns_apart a1.1 hR1 (by decide))
  have hz2 : OwnI 3 (w1.setCell ⟨g, k, none⟩ z2) base z2 (xs ++ [x]) := by
    have a1 : OwnI 3 w1 base z2 (xs ++ [x]) := ⟨by simpa using hown, fun y hy => by
      rcases List.mem_append.1 hy with hy | hy
      · exact hi.2 y hy
      · rw [List.mem_singleton.1 hy]; exact hx⟩
    exact a1.kept hG2 (owns_apart a1.1 hR1 (by decide))
  have hap : ∀ j q, vs[j]? = some q → j ≠ k → Apart q p := fun j q hj hjk => by
    obtain ⟨hjl, rfl⟩ := List.getElem?_eq_some_iff.1 hj
    obtain ⟨hkl', rfl⟩ := List.getElem?_eq_some_iff.1 hp
    rcases Nat.lt_or_ge j k with hlt | hge
    · exact List.pairwise_iff_getElem.1 h3 j k hjl hkl' hlt
    · exact apart_symm (List.pairwise_iff_getElem.1 h3 k j hkl' hjl (by omega))
  have hap2 : ∀ j q, vs[j]? = some q → j ≠ k → Apart q z2 := fun j q hj hjk => by
    have hjr : j < xss.length := by rw [← hl]; exact (List.getElem?_eq_some_iff.1 hj).1
    rcases hblk with hb | hb
    · unfold Apart; rw [hb]; exact hap j q hj hjk
    · obtain ⟨q', hq', hqi⟩ := h2 j _ (List.getElem?_eq_getElem hjr)
      rw [hj] at hq'
      cases hq'
      unfold Apart
      cases hab : q.ownBlock with
      | none => exact .inl rfl
      | some k1 =>
        refine .inr fun he => ?_
        have h5 := owns_lt hqi.1 k1 hab
        rw [hb] at he
        have : k1 = (w.alloc tmp).heap.size := Option.some.inj he
        simp at this
        omega
  have hne : some g ≠ p.ownBlock := by
    intro he
    rcases owns_apart h1 hi.1 (by decide) with ha | ha
    · cases ha
    · exact ha he
  refine ⟨⟨by rw [hR1.cellAt _ (by omega)]; exact hp, hR1.frozenAt k, hne⟩, ⟨vs.set k z2, by rw [List.length_set]; exact hR2, fun j q hj => ?_, ?_⟩, ?_⟩
  · rw [List.getElem?_set] at hj
    by_cases hjk : k = j
    · subst hjk
      rw [if_pos rfl, if_pos hkl] at hj
      cases hj
      exact ⟨z2, by rw [List.getElem?_set, if_pos rfl, if_pos (by omega)], hz2⟩
    · rw [if_neg hjk] at hj
      obtain ⟨q', hq', qi⟩ := h2 j q hj
      exact ⟨q', by rw [List.getElem?_set, if_neg hjk]; exact hq', kI _ _ qi (hap j q' hq' (Ne.symm hjk))⟩
  · rw [List.pairwise_iff_getElem]
    intro i j hi' hj' hij
    rw [List.getElem_set, List.getElem_set]
    rw [List.length_set] at hi' hj'
    by_cases hik : k = i
    · subst hik
      rw [if_pos rfl, if_neg (by omega)]
      exact apart_symm (hap2 j _ (List.getElem?_eq_getElem hj') (by omega))
    · rw [if_neg hik]
      by_cases hjk : k = j
      · subst hjk
        rw [if_pos rfl]
        exact hap2 i _ (List.getElem?_eq_getElem hi') (by omega)
      · rw [if_neg hjk]
        exact List.pairwise_iff_getElem.1 h3 i j hi' hj' hij
  · exact (((Below.refl base w).alloc hbase tmp).grown hg (by simp; omega) (fun j hj => (hi.1.lt j hj).1)).setCell (by exact hgl.1) _
theorem OwnTb.rows (h : OwnTb w base v xss) (hn : xss.length ≤ 4611686018427387903) (hm : ∀ xs ∈ xss, xs.length ≤ 4611686018427387903) : ∃ a c, v = .slice a xss.length c ∧ Rows2 w a xss.length xss := by
  obtain ⟨vs, h1, h2, _⟩ := h
  rcases h1.2 with ⟨rfl, h0⟩ | ⟨g, cap, cur, rfl, _, _, _, _, _, _⟩
  · have : xss = [] := List.eq_nil_of_length_eq_zero h0
    subst this
    exact ⟨none, 0, rfl, Sl.nil _ _⟩
  · refine ⟨_, cap, rfl, rfl, hn, fun k xs hk => ?_⟩
    obtain ⟨u, hu, ho⟩ := h2 k xs hk
    have hkl : k < xss.length := (List.getElem?_eq_some_iff.1 hk).1
    obtain ⟨a, c, rfl, hI⟩ := ho.ints (hm xs (List.mem_of_getElem? hk))
    exact ⟨g, 0, _, rfl, by rw [Nat.zero_add, h1.cellAt _ (by omega)]; exact hu, _, _, _, rfl, hI⟩
end
/-- a source has a gap in a column -/
def gapAt (x : Coll) (col src : Nat) : Bool :=
  match x.columns[col]? with
  | some c => if nth c src < 0 then false else match (x.tokens[src]?.bind fun l => l[(nth c src).toNat]?) with | some t => isGap t.flags | none => false
  | none => false
theorem gapAt_neg {x : Coll} {col src : Nat} {c : List Int} (hc : x.columns[col]? = some c) (h : nth c src < 0) : gapAt x col src = false := by
  rw [gapAt, hc]; exact if_pos h
theorem gapAt_pos {x : Coll} {col src : Nat} {c : List Int} {l : List Tok} {t : Tok} {n : Nat} (hc : x.columns[col]? = some c) (h : nth c src = n) (hl : x.tokens[src]? = some l) (ht : l[n]? = some t) : gapAt x col src = isGap t.flags := by
  rw [gapAt, hc]
  simp only [h, hl, Int.toNat_natCast, Option.bind_some, ht]
  exact if_neg (by omega)
/-- a source has a gap in columns -/
def gapU (x : Coll) (s lo hi : Nat) : Bool := (List.range' lo (hi - lo)).any fun k => gapAt x k s
theorem gapU_zero (x : Coll) (s lo : Nat) : gapU x s lo lo = false := by simp [gapU]
theorem gapU_succ {x : Coll} {s lo k : Nat} (h : lo ≤ k) : gapU x s lo (k + 1) = (gapU x s lo k || gapAt x k s) := by
  unfold gapU
  rw [show k + 1 - lo = (k - lo) + 1 by omega, List.range'_concat, List.any_append, show lo + 1 * (k - lo) = k by omega]
  simp
/-- the state of a source at a place -/
def stateU (x : Coll) (s : Nat) (u : Plc) : Int := if gapU x s u.lo.toNat u.hi.toNat = true then -1 else (whoE u.rds (s : Int)).1
def statesL (x : Coll) (us : List Plc) : List (List Int) := (List.range x.sigla.length).map fun s => us.map (stateU x s)
def statesE (x : Coll) (us : List Plc) : List (List Int) × Int := if chkU x us ≠ 0 then ([], chkU x us) else (statesL x us, 0)
theorem statesE_bad {x : Coll} {us : List Plc} (h : chkU x us ≠ 0) : statesE x us = ([], chkU x us) := if_pos h
theorem statesE_in {x : Coll} {us : List Plc} (h : chkU x us = 0) : statesE x us = (statesL x us, 0) := if_neg (by rw [h]; simp)
/-- the states of the sources so far -/
def tabS (x : Coll) (us : List Plc) (m : Nat) : List (List Int) := (List.range x.sigla.length).map fun s => if s < m then us.map (stateU x s) else []
theorem tabS_len (x : Coll) (us : List Plc) (m : Nat) : (tabS x us m).length = x.sigla.length := by simp [tabS]
theorem tabS_zero (x : Coll) (us : List Plc) : tabS x us 0 = List.replicate x.sigla.length [] := by
  apply List.ext_getElem?
  intro i
  simp only [tabS, List.getElem?_map, Nat.not_lt_zero, if_false]
  by_cases h : i < x.sigla.length
  · rw [List.getElem?_range h]; simp [h]
  · simp [h]
theorem tabS_all (x : Coll) (us : List Plc) : tabS x us x.sigla.length = statesL x us := by
  apply List.map_congr_left
  intro s hs
  rw [if_pos (List.mem_range.1 hs)]
theorem tabS_at {x : Coll} {us : List Plc} {m : Nat} (h : m < x.sigla.length) : (tabS x us m)[m]? = some [] := by
  simp [tabS, h]
theorem tabS_next {x : Coll} {us : List Plc} {m : Nat} (_ : m < x.sigla.length) : (tabS x us m).set m (us.map (stateU x m)) = tabS x us (m + 1) := by
  apply List.ext_getElem?
  intro i
  by_cases hi : i < x.sigla.length
  · by_cases he : m = i
    · subst he
      rw [List.getElem?_set_self (by rw [tabS_len]; exact hi)]
      simp [tabS, hi]
    · rw [List.getElem?_set_ne he]
      simp only [tabS, List.getElem?_map, List.getElem?_range hi, Option.map_some]
      by_cases h1 : i < m
      · rw [if_pos h1, if_pos (by omega)]
      · rw [if_neg h1, if_neg (by omega)]
  · rw [List.getElem?_eq_none (by rw [List.length_set, tabS_len]; omega), List.getElem?_eq_none (by rw [tabS_len]; omega)]
end Go.Ap
