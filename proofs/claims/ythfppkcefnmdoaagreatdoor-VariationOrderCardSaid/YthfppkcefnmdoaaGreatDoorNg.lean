import Derived.Test.YthfppkcefnmdoaaGreatDoorPl
import Derived.RangeFuncBox
import Derived.Maps.AppendAt
import Derived.Laws.OwnMore
import Derived.Deep.AppendLies

/-
  A slice of readings that a call makes itself: two cells a reading, the sources in a block of their own.
-/




namespace Go.Ap
open Go Go.RowKit

/-- a slice of ints of the call's own -/
def OwnI (e : TypeId) (w : World) (base : Nat) (v : Value) (xs : List Int) : Prop := w.ownsRow base e 1 v xs.length (xs.map (Value.int .i64)) ∧ ∀ x ∈ xs, I64 x
section
variable {e t : TypeId} {w w' w1 : World} {base base' : Nat} {v u v' : Value} {xs : List Int}
theorem OwnI.below (h : OwnI e w base v xs) (hb : Below w.heap.size w w') : OwnI e w' base v xs := ⟨owns_below h.1 hb, h.2⟩
theorem OwnI.mono (h : OwnI e w base v xs) (hb : base' ≤ base) : OwnI e w base' v xs := ⟨owns_mono h.1 hb, h.2⟩
theorem OwnI.kept {row : Option Nat} (h : OwnI e w base v xs) (hg : w.grownBy w' row) (hne : v.ownBlock = none ∨ v.ownBlock ≠ row) : OwnI e w' base v xs := ⟨h.1.kept hg hne, h.2⟩
end
def Apart (u v : Value) : Prop := u.ownBlock = none ∨ u.ownBlock ≠ v.ownBlock
def flat2 : List (Value × Value) → List Value
  | [] => []
  | p :: r => p.1 :: p.2 :: flat2 r
theorem flat2_len : ∀ vs : List (Value × Value), (flat2 vs).length = vs.length * 2
  | [] => rfl
  | p :: r => by simp only [flat2, List.length_cons, flat2_len r]; omega
theorem flat2_append (p : Value × Value) : ∀ vs : List (Value × Value), flat2 (vs ++ [p]) = flat2 vs ++ [p.1, p.2]
  | [] => rfl
  | q :: r => by simp only [flat2, List.cons_append, flat2_append p r]
theorem flat2_at : ∀ {vs : List (Value × Value)} {k : Nat} {p : Value × Value}, vs[k]? = some p → (flat2 vs)[k * 2]? = some p.1 ∧ (flat2 vs)[k * 2 + 1]? = some p.2
  | [], k, p, h => by simp at h
  | q :: r, 0, p, h => by
    simp only [List.getElem?_cons_zero, Option.some.injEq] at h
    subst h
    exact ⟨rfl, rfl⟩
  | q :: r, k + 1, p, h => by
    have ih := flat2_at (vs := r) (k := k) (p := p) (by simpa using h)
    rw [show (k + 1) * 2 = k * 2 + 1 + 1 by omega, show k * 2 + 1 + 1 + 1 = (k * 2 + 1) + 1 + 1 by omega]
    simpa only [flat2, List.getElem?_cons_succ] using ih
theorem flat2_set : ∀ {vs : List (Value × Value)} {k : Nat} {p : Value × Value} (z : Value), vs[k]? = some p → (flat2 vs).set (k * 2 + 1) z = flat2 (vs.set k (p.1, z))
  | [], k, p, z, h => by simp at h
  | q :: r, 0, p, z, h => by
    simp only [List.getElem?_cons_zero, Option.some.injEq] at h
    subst h
    rfl
  | q :: r, k + 1, p, z, h => by
    rw [show (k + 1) * 2 + 1 = (k * 2 + 1) + 1 + 1 by omega]
    simp only [flat2, List.set_cons_succ, flat2_set (vs := r) (k := k) (p := p) z (by simpa using h)]

/-- a slice of readings of the call's own, no two sources in one block -/
def OwnRd (w : World) (base : Nat) (v : Value) (rds : List Rdg) : Prop :=
  ∃ vs : List (Value × Value), w.ownsRow base 39 2 v rds.length (flat2 vs) ∧ (∀ (k : Nat) (r : Rdg), rds[k]? = some r → ∃ p, vs[k]? = some p ∧ OwnS w base p.1 r.1 ∧ OwnI 3 w base p.2 r.2) ∧ (vs.map (·.2)).Pairwise Apart
section
variable {w w' w1 : World} {base base' : Nat} {v v' : Value} {rds : List Rdg}
theorem OwnRd.below (h : OwnRd w base v rds) (hb : Below w.heap.size w w') : OwnRd w' base v rds := by
  obtain ⟨vs, h1, h2, h3⟩ := h
  exact ⟨vs, owns_below h1 hb, fun k r hk => by obtain ⟨p, hp, ho, hi⟩ := h2 k r hk; exact ⟨p, hp, ho.below hb, hi.below hb⟩, h3⟩
theorem OwnRd.nil (w : World) (base : Nat) : OwnRd w base (.slice none 0 0) [] := ⟨[], World.ownsRow_nil _ _ _ _, fun k x hx => by simp at hx, .nil⟩
theorem OwnRd.empty (w : World) {base : Nat} (hw : base ≤ w.heap.size) : OwnRd (w.alloc (.cells #[] 39)) base (.slice (some ⟨w.heap.size, 0, none⟩) 0 0) [] :=
  ⟨[], World.ownsRow_made w #[] 0 hw (by simp [maxLen]) rfl, fun k x hx => by simp at hx, .nil⟩
theorem OwnRd.len (h : OwnRd w base v rds) : ∃ vs : List (Value × Value), vs.length = rds.length ∧ w.ownsRow base 39 2 v rds.length (flat2 vs) := by
  obtain ⟨vs, h1, _, _⟩ := h
  have := h1.1
  rw [flat2_len] at this
  exact ⟨vs, by omega, h1⟩
/-- ready for one more reading -/
theorem OwnRd.ready {ws : List Str} {ss : List Int} {u z : Value} (h : OwnRd w base v rds) (hbase : base ≤ w.heap.size) (hb : Below w.heap.size w w') (hu : OwnS w' base u ws) (hz : OwnI 3 w' w.heap.size z ss) :
    ∃ vs, w'.ownsRow base 39 2 v rds.length (flat2 vs) ∧ ∀ w1 v' tmp, w1.ownsRow base 39 2 v' (rds.length + 1) (flat2 vs ++ [u, z]) → (w'.alloc tmp).grownBy w1 v.ownBlock → OwnRd w1 base v' (rds ++ [(ws, ss)]) ∧ Below base w' w1 := by
  obtain ⟨vs, h1, h2, h3⟩ := h
  have hl : vs.length = rds.length := by have := h1.1; rw [flat2_len] at this; omega
  have h1' := owns_below h1 hb
  refine ⟨vs, h1', fun w1 v' tmp hown hg => ⟨⟨vs ++ [(u, z)], by rw [flat2_append]; simpa using hown, fun k r hk => ?_, ?_⟩, ?_⟩⟩
  · have keyI : ∀ y ys b, OwnI 3 w' b y ys → OwnI 3 w1 b y ys := fun y ys b ho =>
      OwnI.kept (w := w'.alloc tmp) (OwnI.kept ho (World.grownBy_alloc w' tmp none) (by cases y.ownBlock <;> simp)) hg (owns_apart ho.1 h1' (by decide))
    have keyS : ∀ y ys, OwnS w' base y ys → OwnS w1 base y ys := fun y ys ho =>
      World.ownsRow.kept (w := w'.alloc tmp) (World.ownsRow.kept ho (World.grownBy_alloc w' tmp none) (by cases y.ownBlock <;> simp)) hg (owns_apart ho h1' (by decide))
    rcases Nat.lt_or_ge k rds.length with hlt | hge
    · rw [List.getElem?_append_left hlt] at hk
      obtain ⟨p, hp, ho, hi⟩ := h2 k r hk
      exact ⟨p, by rw [List.getElem?_append_left (by omega)]; exact hp, keyS _ _ (ho.below hb), keyI _ _ _ (hi.below hb)⟩
    · obtain ⟨hk', hke⟩ := List.getElem?_eq_some_iff.1 hk
      have hkl : k = rds.length := by simp at hk'; omega
      subst hkl
      have : r = (ws, ss) := by rw [← hke]; simp
      subst this
      exact ⟨(u, z), by rw [List.getElem?_append_right (by omega)]; simp [hl], keyS _ _ hu, (keyI _ _ _ hz).mono hbase⟩
  · rw [List.map_append, List.pairwise_append]
    refine ⟨h3, List.pairwise_singleton _ _, fun a ha b hb' => ?_⟩
    rw [List.map_singleton, List.mem_singleton] at hb'
    subst hb'
    obtain ⟨q, hq, rfl⟩ := List.mem_map.1 ha
    obtain ⟨k, hk⟩ := List.getElem?_of_mem hq
    have hkl : k < rds.length := by rw [← hl]; exact (List.getElem?_eq_some_iff.1 hk).1
    obtain ⟨p, hp, _, hi⟩ := h2 k _ (List.getElem?_eq_getElem hkl)
    rw [hk] at hp
    cases hp
    unfold Apart
    cases hab : q.2.ownBlock with
    | none => exact .inl rfl
    | some k1 =>
      refine .inr fun he => ?_
      have := owns_lt hi.1 k1 hab
      have := (hz.1.lt k1 he.symm).1
      omega
  · exact ((Below.refl base w').alloc (Nat.le_trans hbase hb.size) tmp).grown hg (by simp; have := hb.size; omega) (fun k hk => (h1'.lt k hk).1)
theorem apart_symm {a b : Value} (h : Apart a b) : Apart b a := by
  unfold Apart at h ⊢
  rcases h with h | h
  · cases hb : b.ownBlock with
    | none => exact .inl rfl
    | some k => exact .inr (by rw [h]; simp)
  · exact .inr fun e => h e.symm
/-- where a reading lies -/
theorem OwnRd.at {k : Nat} {r : Rdg} (h : OwnRd w base v rds) (hk : rds[k]? = some r) : ∃ g cap u z, v = .slice (some ⟨g, 0, none⟩) rds.length cap ∧ base ≤ g ∧ w.cell? ⟨g, k * 2, none⟩ = some u ∧ w.cell? ⟨g, k * 2 + 1, none⟩ = some z ∧ OwnS w base u r.1 ∧ OwnI 3 w base z r.2 := by
  obtain ⟨vs, h1, h2, _⟩ := h
  have hkl : k < rds.length := (List.getElem?_eq_some_iff.1 hk).1
  obtain ⟨p, hp, ho, hi⟩ := h2 k r hk
  rcases h1.2 with ⟨_, h0⟩ | ⟨g, cap, cur, rfl, hbg, _⟩
  · omega
  · obtain ⟨f1, f2⟩ := flat2_at hp
    exact ⟨g, cap, p.1, p.2, rfl, hbg, by rw [h1.cellAt _ (by omega)]; exact f1, by rw [h1.cellAt _ (by omega)]; exact f2, ho, hi⟩
/-- one more source of reading k -/
theorem OwnRd.more {k : Nat} {r : Rdg} {g cap : Nat} {z z2 : Value} {x : Int} {tmp : Obj} (h : OwnRd w base (.slice (some ⟨g, 0, none⟩) rds.length cap) rds) (hbase : base ≤ w.heap.size) (hk : rds[k]? = some r) (hz : w.cell? ⟨g, k * 2 + 1, none⟩ = some z) (hx : I64 x)
    (hown : w1.ownsRow base 3 1 z2 (r.2.length + 1) (r.2.map (Value.int .i64) ++ [.int .i64 x])) (hg : (w.alloc tmp).grownBy w1 z.ownBlock) (hblk : z2.ownBlock = z.ownBlock ∨ z2.ownBlock = some (w.alloc tmp).heap.size) :
    OwnRd (w1.setCell ⟨g, k * 2 + 1, none⟩ z2) base (.slice (some ⟨g, 0, none⟩) rds.length cap) (rds.set k (r.1, r.2 ++ [x])) ∧ Below base w (w1.setCell ⟨g, k * 2 + 1, none⟩ z2) := by
  obtain ⟨vs, h1, h2, h3⟩ := h
  have hl : vs.length = rds.length := by have := h1.1; rw [flat2_len] at this; omega
  have hkl : k < rds.length := (List.getElem?_eq_some_iff.1 hk).1
  obtain ⟨p, hp, ho, hi⟩ := h2 k r hk
  obtain ⟨f1, f2⟩ := flat2_at hp
  have hpz : p.2 = z := by
    rw [h1.cellAt _ (by omega), f2] at hz
    exact Option.some.inj hz
  subst hpz
  have hgl := h1.lt g rfl
  have hR1 : w1.ownsRow base 39 2 (.slice (some ⟨g, 0, none⟩) rds.length cap) rds.length (flat2 vs) := (h1.alloc tmp).kept hg (owns_apart h1 hi.1 (by decide))
  obtain ⟨hR2, hG2⟩ := hR1.stored (k * 2 + 1) z2
  rw [flat2_set z2 hp] at hR2
  have kI : ∀ y ys, OwnI 3 w base y ys → Apart y p.2 → OwnI 3 (w1.setCell ⟨g, k * 2 + 1, none⟩ z2) base y ys := fun y ys hy ha => by
    have a1 : OwnI 3 w1 base y ys := OwnI.kept (w := w.alloc tmp) ⟨hy.1.alloc tmp, hy.2⟩ hg ha
    exact a1.kept hG2 (owns_apart a1.1 hR1 (by decide))
  have kS : ∀ y ys, OwnS w base y ys → OwnS (w1.setCell ⟨g, k * 2 + 1, none⟩ z2) base y ys := fun y ys hy => by
    have a1 : OwnS w1 base y ys := World.ownsRow.kept (w := w.alloc tmp) (World.ownsRow.alloc hy tmp) hg (owns_apart hy hi.1 (by decide))
    exact World.ownsRow.kept a1 hG2 (owns_apart a1 hR1 (by decide))
  have hz2 : OwnI 3 (w1.setCell ⟨g, k * 2 + 1, none⟩ z2) base z2 (r.2 ++ [x]) := by
    have a1 : OwnI 3 w1 base z2 (r.2 ++ [x]) := ⟨by simpa using hown, fun y hy => by
      rcases List.mem_append.1 hy with hy | hy
      · exact hi.2 y hy
      · rw [List.mem_singleton.1 hy]; exact hx⟩
    exact a1.kept hG2 (owns_apart a1.1 hR1 (by decide))
  rw [List.pairwise_map] at h3
  have hap : ∀ j q, vs[j]? = some q → j ≠ k → Apart q.2 p.2 := fun j q hj hjk => by
    obtain ⟨hjl, rfl⟩ := List.getElem?_eq_some_iff.1 hj
    obtain ⟨hkl', rfl⟩ := List.getElem?_eq_some_iff.1 hp
    rcases Nat.lt_or_ge j k with hlt | hge
    · exact List.pairwise_iff_getElem.1 h3 j k hjl hkl' hlt
    · exact apart_symm (List.pairwise_iff_getElem.1 h3 k j hkl' hjl (by omega))
  have hap2 : ∀ j q, vs[j]? = some q → j ≠ k → Apart q.2 z2 := fun j q hj hjk => by
    have hjr : j < rds.length := by rw [← hl]; exact (List.getElem?_eq_some_iff.1 hj).1
    rcases hblk with hb | hb
    · unfold Apart; rw [hb]; exact hap j q hj hjk
    · obtain ⟨q', hq', _, hqi⟩ := h2 j _ (List.getElem?_eq_getElem hjr)
      rw [hj] at hq'
      cases hq'
      unfold Apart
      cases hab : q.2.ownBlock with
      | none => exact .inl rfl
      | some k1 =>
        refine .inr fun he => ?_
        have h5 := owns_lt hqi.1 k1 hab
        rw [hb] at he
        have : k1 = (w.alloc tmp).heap.size := Option.some.inj he
        simp at this
        omega
  refine ⟨⟨vs.set k (p.1, z2), by rw [List.length_set]; exact hR2, fun j q hj => ?_, ?_⟩, ?_⟩
  · rw [List.getElem?_set] at hj
    by_cases hjk : k = j
    · subst hjk
      rw [if_pos rfl, if_pos hkl] at hj
      cases hj
      exact ⟨(p.1, z2), by rw [List.getElem?_set, if_pos rfl, if_pos (by omega)], kS _ _ ho, hz2⟩
    · rw [if_neg hjk] at hj
      obtain ⟨q', hq', qo, qi⟩ := h2 j q hj
      exact ⟨q', by rw [List.getElem?_set, if_neg hjk]; exact hq', kS _ _ qo, kI _ _ qi (hap j q' hq' (Ne.symm hjk))⟩
  · rw [List.pairwise_map, List.pairwise_iff_getElem]
    intro i j hi' hj' hij
    rw [List.getElem_set, List.getElem_set]
    rw [List.length_set] at hi' hj'
    by_cases hik : k = i
    · subst hik
      rw [if_pos rfl, if_neg (by omega)]
      exact apart_symm (hap2 j _ (List.getElem?_eq_getElem hj') (by omega))
    · rw [if_neg hik]
      by_cases hjk : k = j
      · subst hjk
        rw [if_pos rfl]
        exact hap2 i _ (List.getElem?_eq_getElem hi') (by omega)
      · rw [if_neg hjk]
        exact List.pairwise_iff_getElem.1 h3 i j hi' hj' hij
  · exact (((Below.refl base w).alloc hbase tmp).grown hg (by simp; omega) (fun j hj => (hi.1.lt j hj).1)).setCell (by exact hgl.1) _
end
end Go.Ap

/-
  A slice of places that a call makes itself: three cells a place; the readings of a place are the call's own, or the caller's.
-/


namespace Go.Ap
open Go Go.RowKit

section
variable {w w' : World} {base base' n : Nat} {u v : Value} {rds : List Rdg} {xs : List Value}
theorem OwnRd.mono (h : OwnRd w base v rds) (hb : base' ≤ base) : OwnRd w base' v rds := by
  obtain ⟨vs, h1, h2, h3⟩ := h
  exact ⟨vs, owns_mono h1 hb, fun k r hk => by obtain ⟨p, hp, ho, hi⟩ := h2 k r hk; exact ⟨p, hp, ho.mono hb, hi.mono hb⟩, h3⟩
/-- readings stay where a row of places grows -/
theorem OwnRd.kept (h : OwnRd w base v rds) (h' : w.ownsRow base' 36 3 u n xs) (hg : w.grownBy w' u.ownBlock) : OwnRd w' base v rds := by
  obtain ⟨vs, h1, h2, h3⟩ := h
  exact ⟨vs, h1.kept hg (owns_apart h1 h' (by decide)), fun k r hk => by
    obtain ⟨p, hp, ho, hi⟩ := h2 k r hk
    exact ⟨p, hp, World.ownsRow.kept ho hg (owns_apart ho h' (by decide)), hi.kept hg (owns_apart hi.1 h' (by decide))⟩, h3⟩
end
theorem OwnRd.cap {w : World} {base n c : Nat} {a : Option Addr} {rds : List Rdg} (h : OwnRd w base (.slice a n c) rds) : n ≤ c := by
  obtain ⟨vs, h1, _, _⟩ := h
  rcases h1.2 with ⟨he, _⟩ | ⟨g, cap, cur, he, _, _, hc, _⟩
  · cases he; exact Nat.le_refl _
  · injection he with _ e1 e2
    subst e1 e2
    exact hc
/-- few readings, few words, few sources -/
def RdS (rds : List Rdg) : Prop := rds.length ≤ 4611686018427387903 ∧ ∀ r ∈ rds, r.1.length ≤ 4611686018427387903 ∧ r.2.length ≤ 4611686018427387903
theorem OwnI.ints {w : World} {base : Nat} {v : Value} {xs : List Int} (h : OwnI 3 w base v xs) (hn : xs.length ≤ 4611686018427387903) : ∃ a c, v = .slice a xs.length c ∧ Ints w a xs.length xs := ints_of_owns h.1 h.2 hn
theorem OwnRd.rdgs {w : World} {base : Nat} {v : Value} {rds : List Rdg} (h : OwnRd w base v rds) (hs : RdS rds) : ∃ a c, v = .slice a rds.length c ∧ Rdgs w a rds.length rds := by
  rcases Nat.eq_zero_or_pos rds.length with h0 | h0
  · have he : rds = [] := List.eq_nil_of_length_eq_zero h0
    subst he
    obtain ⟨vs, h1, _, _⟩ := h
    rcases h1.2 with ⟨rfl, _⟩ | ⟨g, cap, _, rfl, _⟩
    · exact ⟨none, 0, rfl, SlM.nil _ _⟩
    · exact ⟨_, cap, rfl, SlM.nil _ _⟩
  · obtain ⟨g, cap, _, _, hv, _⟩ := h.at (List.getElem?_eq_getElem h0)
    refine ⟨_, cap, hv, rfl, hs.1, fun k r hk => ⟨g, 0, rfl, ?_⟩⟩
    obtain ⟨g', cap', u, z, hv', _, c1, c2, o1, o2⟩ := h.at hk
    rw [hv] at hv'
    cases hv'
    obtain ⟨b1, b2⟩ := hs.2 r (List.mem_of_getElem? hk)
    obtain ⟨a1, k1, rfl, s1⟩ := o1.strs b1
    obtain ⟨a2, k2, rfl, s2⟩ := o2.ints b2
    rw [Nat.zero_add]
    exact ⟨a1, _, k1, a2, _, k2, c1, s1, c2, s2⟩
theorem rdsL_small {x : Coll} {lo hi : Nat} (h1 : x.sigla.length ≤ 32) (h2 : hi - lo ≤ 1048576) : RdS (rdsL x lo hi) := by
  have hl := rdsN_len x lo hi x.sigla.length
  refine ⟨by unfold rdsL; omega, fun r hr => ⟨?_, ?_⟩⟩
  · obtain ⟨⟨a, ha⟩, _, h3⟩ := (rdsN_at x lo hi x.sigla.length).src r hr
    obtain ⟨k, _, _, he⟩ := h3 a (List.mem_of_getElem? ha)
    have := readL_len x k lo hi
    rw [← he]
    omega
  · have := rdsN_src x lo hi x.sigla.length r hr
    omega

/-- the readings of a place: the call's own, or the caller's -/
def RdV (w0 w : World) (v : Value) (rds : List Rdg) : Prop := OwnRd w w0.heap.size v rds ∨ ∃ a n c, v = .slice a n c ∧ n ≤ c ∧ Rdgs w0 a n rds
theorem RdV.below {w0 w w' : World} {v : Value} {rds : List Rdg} (h : RdV w0 w v rds) (hb : Below w.heap.size w w') : RdV w0 w' v rds := by
  rcases h with h | h
  · exact .inl (h.below hb)
  · exact .inr h
theorem RdV.kept {w0 w w' : World} {base' n : Nat} {u v : Value} {rds : List Rdg} {xs : List Value} (h : RdV w0 w v rds) (h' : w.ownsRow base' 36 3 u n xs) (hg : w.grownBy w' u.ownBlock) : RdV w0 w' v rds := by
  rcases h with h | h
  · exact .inl (h.kept h' hg)
  · exact .inr h
theorem RdV.rdgs {w0 w : World} {v : Value} {rds : List Rdg} (h : RdV w0 w v rds) (hb : Below w0.heap.size w0 w) (hs : RdS rds) : ∃ a n c, v = .slice a n c ∧ n ≤ c ∧ Rdgs w a n rds := by
  rcases h with h | ⟨a, n, c, rfl, hc, h⟩
  · obtain ⟨a, c, rfl, hr⟩ := h.rdgs hs
    exact ⟨a, _, c, rfl, h.cap, hr⟩
  · exact ⟨a, n, c, rfl, hc, h.mono (Nat.le_refl _) hb⟩
def flat3 : List (Int × Int × Value) → List Value
  | [] => []
  | p :: r => .int .i64 p.1 :: .int .i64 p.2.1 :: p.2.2 :: flat3 r
theorem flat3_len : ∀ vs : List (Int × Int × Value), (flat3 vs).length = vs.length * 3
  | [] => rfl
  | p :: r => by simp only [flat3, List.length_cons, flat3_len r]; omega
theorem flat3_append (p : Int × Int × Value) : ∀ vs : List (Int × Int × Value), flat3 (vs ++ [p]) = flat3 vs ++ [.int .i64 p.1, .int .i64 p.2.1, p.2.2]
  | [] => rfl
  | q :: r => by simp only [flat3, List.cons_append, flat3_append p r]
theorem flat3_at : ∀ {vs : List (Int × Int × Value)} {k : Nat} {p : Int × Int × Value}, vs[k]? = some p → (flat3 vs)[k * 3]? = some (.int .i64 p.1) ∧ (flat3 vs)[k * 3 + 1]? = some (.int .i64 p.2.1) ∧ (flat3 vs)[k * 3 + 2]? = some p.2.2
  | [], k, p, h => by simp at h
  | q :: r, 0, p, h => by
    simp only [List.getElem?_cons_zero, Option.some.injEq] at h
    subst h
    exact ⟨rfl, rfl, rfl⟩
  | q :: r, k + 1, p, h => by
    have ih := flat3_at (vs := r) (k := k) (p := p) (by simpa using h)
    rw [show (k + 1) * 3 = k * 3 + 1 + 1 + 1 by omega, show k * 3 + 1 + 1 + 1 + 1 = (k * 3 + 1) + 1 + 1 + 1 by omega, show k * 3 + 1 + 1 + 1 + 2 = (k * 3 + 2) + 1 + 1 + 1 by omega]
    simpa only [flat3, List.getElem?_cons_succ] using ih
theorem flat3_set1 : ∀ {vs : List (Int × Int × Value)} {k : Nat} {p : Int × Int × Value} (y : Int), vs[k]? = some p → (flat3 vs).set (k * 3 + 1) (.int .i64 y) = flat3 (vs.set k (p.1, y, p.2.2))
  | [], k, p, y, h => by simp at h
  | q :: r, 0, p, y, h => by
    simp only [List.getElem?_cons_zero, Option.some.injEq] at h
    subst h
    rfl
  | q :: r, k + 1, p, y, h => by
    rw [show (k + 1) * 3 + 1 = (k * 3 + 1) + 1 + 1 + 1 by omega]
    simp only [flat3, List.set_cons_succ, flat3_set1 (vs := r) (k := k) (p := p) y (by simpa using h)]
theorem flat3_set2 : ∀ {vs : List (Int × Int × Value)} {k : Nat} {p : Int × Int × Value} (z : Value), vs[k]? = some p → (flat3 vs).set (k * 3 + 2) z = flat3 (vs.set k (p.1, p.2.1, z))
  | [], k, p, z, h => by simp at h
  | q :: r, 0, p, z, h => by
    simp only [List.getElem?_cons_zero, Option.some.injEq] at h
    subst h
    rfl
  | q :: r, k + 1, p, z, h => by
    rw [show (k + 1) * 3 + 2 = (k * 3 + 2) + 1 + 1 + 1 by omega]
    simp only [flat3, List.set_cons_succ, flat3_set2 (vs := r) (k := k) (p := p) z (by simpa using h)]
/-- a slice of places of the call's own -/
def OwnPl (w0 w : World) (v : Value) (us : List Plc) : Prop :=
  ∃ vs : List (Int × Int × Value), w.ownsRow w0.heap.size 36 3 v us.length (flat3 vs) ∧ ∀ (k : Nat) (u : Plc), us[k]? = some u → ∃ z, vs[k]? = some (u.lo, u.hi, z) ∧ I64 u.lo ∧ I64 u.hi ∧ RdV w0 w z u.rds
section
variable {w0 w w' w1 : World} {v v' z : Value} {us : List Plc}
theorem OwnPl.below (h : OwnPl w0 w v us) (hb : Below w.heap.size w w') : OwnPl w0 w' v us := by
  obtain ⟨vs, h1, h2⟩ := h
  exact ⟨vs, owns_below h1 hb, fun k u hk => by obtain ⟨z, hp, a1, a2, hz⟩ := h2 k u hk; exact ⟨z, hp, a1, a2, hz.below hb⟩⟩
theorem OwnPl.nil (w0 w : World) : OwnPl w0 w (.slice none 0 0) [] := ⟨[], World.ownsRow_nil _ _ _ _, fun k x hx => by simp at hx⟩
theorem OwnPl.empty (w0 w : World) (hw : w0.heap.size ≤ w.heap.size) : OwnPl w0 (w.alloc (.cells #[] 36)) (.slice (some ⟨w.heap.size, 0, none⟩) 0 0) [] :=
  ⟨[], World.ownsRow_made w #[] 0 hw (by simp [maxLen]) rfl, fun k x hx => by simp at hx⟩
theorem OwnPl.row (h : OwnPl w0 w v us) : ∃ vs : List (Int × Int × Value), w.ownsRow w0.heap.size 36 3 v us.length (flat3 vs) := by
  obtain ⟨vs, h1, _⟩ := h
  exact ⟨vs, h1⟩
/-- ready for one more place -/
theorem OwnPl.ready {u : Plc} (h : OwnPl w0 w v us) (hbase : w0.heap.size ≤ w.heap.size) (hlo : I64 u.lo) (hhi : I64 u.hi) (hz : RdV w0 w z u.rds) :
    ∃ vs, w.ownsRow w0.heap.size 36 3 v us.length (flat3 vs) ∧ ∀ w1 v' tmp, w1.ownsRow w0.heap.size 36 3 v' (us.length + 1) (flat3 vs ++ [.int .i64 u.lo, .int .i64 u.hi, z]) → (w.alloc tmp).grownBy w1 v.ownBlock → OwnPl w0 w1 v' (us ++ [u]) ∧ Below w0.heap.size w w1 := by
  obtain ⟨vs, h1, h2⟩ := h
  have hl : vs.length = us.length := by have := h1.1; rw [flat3_len] at this; omega
  refine ⟨vs, h1, fun w1 v' tmp hown hg => ⟨⟨vs ++ [(u.lo, u.hi, z)], by rw [flat3_append]; simpa using hown, fun k r hk => ?_⟩, ?_⟩⟩
  · have key : ∀ y ys, RdV w0 w y ys → RdV w0 w1 y ys := fun y ys ho => (ho.below (balloc w tmp)).kept (h1.alloc tmp) hg
    rcases Nat.lt_or_ge k us.length with hlt | hge
    · rw [List.getElem?_append_left hlt] at hk
      obtain ⟨y, hp, a1, a2, ho⟩ := h2 k r hk
      exact ⟨y, by rw [List.getElem?_append_left (by omega)]; exact hp, a1, a2, key _ _ ho⟩
    · obtain ⟨hk', hke⟩ := List.getElem?_eq_some_iff.1 hk
      have hkl : k = us.length := by simp at hk'; omega
      subst hkl
      have : r = u := by rw [← hke]; simp
      subst this
      exact ⟨z, by rw [List.getElem?_append_right (by omega)]; simp [hl], hlo, hhi, key _ _ hz⟩
  · exact ((Below.refl _ w).alloc hbase tmp).grown hg (by simp; omega) (fun k hk => (h1.lt k hk).1)
/-- where a place lies -/
theorem OwnPl.at {k : Nat} {u : Plc} (h : OwnPl w0 w v us) (hk : us[k]? = some u) : ∃ g cap z, v = .slice (some ⟨g, 0, none⟩) us.length cap ∧ w0.heap.size ≤ g ∧ w.cell? ⟨g, k * 3, none⟩ = some (.int .i64 u.lo) ∧ w.cell? ⟨g, k * 3 + 1, none⟩ = some (.int .i64 u.hi) ∧ w.cell? ⟨g, k * 3 + 2, none⟩ = some z ∧
    (∀ j, w.frozen? ⟨g, j, none⟩ = false) ∧ I64 u.lo ∧ I64 u.hi ∧ RdV w0 w z u.rds := by
  obtain ⟨vs, h1, h2⟩ := h
  have hkl : k < us.length := (List.getElem?_eq_some_iff.1 hk).1
  obtain ⟨z, hp, a1, a2, hz⟩ := h2 k u hk
  rcases h1.2 with ⟨_, h0⟩ | ⟨g, cap, cur, rfl, hbg, _⟩
  · omega
  · obtain ⟨f1, f2, f3⟩ := flat3_at hp
    exact ⟨g, cap, z, rfl, hbg, by rw [h1.cellAt _ (by omega)]; exact f1, by rw [h1.cellAt _ (by omega)]; exact f2, by rw [h1.cellAt _ (by omega)]; exact f3, fun j => h1.frozenAt j, a1, a2, hz⟩
/-- the end of place k is set -/
theorem OwnPl.setHi {k g cap : Nat} {u : Plc} {y : Int} (h : OwnPl w0 w (.slice (some ⟨g, 0, none⟩) us.length cap) us) (hk : us[k]? = some u) (hy : I64 y) :
    OwnPl w0 (w.setCell ⟨g, k * 3 + 1, none⟩ (.int .i64 y)) (.slice (some ⟨g, 0, none⟩) us.length cap) (us.set k ⟨u.lo, y, u.rds⟩) ∧ Below w0.heap.size w (w.setCell ⟨g, k * 3 + 1, none⟩ (.int .i64 y)) := by
  obtain ⟨vs, h1, h2⟩ := h
  have hl : vs.length = us.length := by have := h1.1; rw [flat3_len] at this; omega
  have hkl : k < us.length := (List.getElem?_eq_some_iff.1 hk).1
  obtain ⟨z, hp, a1, a2, hz⟩ := h2 k u hk
  obtain ⟨hR, hG⟩ := h1.stored (k * 3 + 1) (.int .i64 y)
  rw [flat3_set1 y hp] at hR
  have key : ∀ q ys, RdV w0 w q ys → RdV w0 (w.setCell ⟨g, k * 3 + 1, none⟩ (.int .i64 y)) q ys := fun q ys ho => ho.kept h1 hG
  refine ⟨⟨vs.set k (u.lo, y, z), by rw [List.length_set]; exact hR, fun j q hj => ?_⟩, (Below.refl _ w).setCell (h1.lt g rfl).1 _⟩
  rw [List.getElem?_set] at hj
  by_cases hjk : k = j
  · subst hjk
    rw [if_pos rfl, if_pos hkl] at hj
    cases hj
    exact ⟨z, by rw [List.getElem?_set, if_pos rfl, if_pos (by omega)], a1, hy, key _ _ hz⟩
  · rw [if_neg hjk] at hj
    obtain ⟨q', hq', b1, b2, qo⟩ := h2 j q hj
    exact ⟨q', by rw [List.getElem?_set, if_neg hjk]; exact hq', b1, b2, key _ _ qo⟩
/-- the readings of place k are set -/
theorem OwnPl.setRds {k g cap : Nat} {u : Plc} {y : Value} {rds : List Rdg} (h : OwnPl w0 w (.slice (some ⟨g, 0, none⟩) us.length cap) us) (hk : us[k]? = some u) (hy : RdV w0 w y rds) :
    OwnPl w0 (w.setCell ⟨g, k * 3 + 2, none⟩ y) (.slice (some ⟨g, 0, none⟩) us.length cap) (us.set k ⟨u.lo, u.hi, rds⟩) ∧ Below w0.heap.size w (w.setCell ⟨g, k * 3 + 2, none⟩ y) := by
  obtain ⟨vs, h1, h2⟩ := h
  have hl : vs.length = us.length := by have := h1.1; rw [flat3_len] at this; omega
  have hkl : k < us.length := (List.getElem?_eq_some_iff.1 hk).1
  obtain ⟨z, hp, a1, a2, hz⟩ := h2 k u hk
  obtain ⟨hR, hG⟩ := h1.stored (k * 3 + 2) y
  rw [flat3_set2 y hp] at hR
  have key : ∀ q ys, RdV w0 w q ys → RdV w0 (w.setCell ⟨g, k * 3 + 2, none⟩ y) q ys := fun q ys ho => ho.kept h1 hG
  refine ⟨⟨vs.set k (u.lo, u.hi, y), by rw [List.length_set]; exact hR, fun j q hj => ?_⟩, (Below.refl _ w).setCell (h1.lt g rfl).1 _⟩
  rw [List.getElem?_set] at hj
  by_cases hjk : k = j
  · subst hjk
    rw [if_pos rfl, if_pos hkl] at hj
    cases hj
    exact ⟨y, by rw [List.getElem?_set, if_pos rfl, if_pos (by omega)], a1, a2, key _ _ hy⟩
  · rw [if_neg hjk] at hj
    obtain ⟨q', hq', b1, b2, qo⟩ := h2 j q hj
    exact ⟨q', by rw [List.getElem?_set, if_neg hjk]; exact hq', b1, b2, key _ _ qo⟩
/-- a slice of places of one's own reads as places -/
theorem OwnPl.plcs (h : OwnPl w0 w v us) (hb : Below w0.heap.size w0 w) (hn : us.length ≤ 4611686018427387903) (hs : ∀ u ∈ us, RdS u.rds) : ∃ a c, v = .slice a us.length c ∧ Plcs w a us.length us := by
  rcases Nat.eq_zero_or_pos us.length with h0 | h0
  · have he : us = [] := List.eq_nil_of_length_eq_zero h0
    subst he
    obtain ⟨vs, h1, _⟩ := h
    rcases h1.2 with ⟨rfl, _⟩ | ⟨g, cap, _, rfl, _⟩
    · exact ⟨none, 0, rfl, SlM.nil _ _⟩
    · exact ⟨_, cap, rfl, SlM.nil _ _⟩
  · obtain ⟨g, cap, _, hv, _⟩ := h.at (List.getElem?_eq_getElem h0)
    refine ⟨_, cap, hv, rfl, hn, fun k u hk => ⟨g, 0, rfl, ?_⟩⟩
    obtain ⟨g', cap', z, hv', _, c1, c2, c3, _, b1, b2, hz⟩ := h.at hk
    rw [hv] at hv'
    cases hv'
    obtain ⟨a, n, c, rfl, hnc, hr⟩ := hz.rdgs hb (hs u (List.mem_of_getElem? hk))
    rw [Nat.zero_add]
    exact ⟨a, n, c, c1, c2, c3, hr, b1, b2, hnc⟩
end
end Go.Ap

/-
  Rows of the call's own stay where a block that holds no cells is written.
-/


namespace Go.Ap
open Go Go.RowKit
section
variable {w w' w0 : World} {base n : Nat} {e : TypeId} {size : Nat} {v : Value} {xs : List Value} {row : Option Nat}
def NoCells (w : World) (row : Option Nat) : Prop := ∀ r, row = some r → ∃ o : Obj, w.heap[r]? = some o ∧ o.isCells = false
/-- the types of the elements of the call's own rows -/
def ownT : List TypeId := [3, 9, 39, 36, 37, 4]
/-- what is written is no row of the call's own -/
def Off (w : World) (row : Option Nat) : Prop := ∀ r, row = some r → ∀ cs t f, w.heap[r]? = some (.cells cs t f) → t ∉ ownT
theorem NoCells.off (h : NoCells w row) : Off w row := fun r hr cs t f hc => by
  obtain ⟨o, ho, hn⟩ := h r hr
  rw [hc] at ho
  cases ho
  cases hn
theorem owns_keptN (he : e ∈ ownT) (h : w.ownsRow base e size v n xs) (hg : w.grownBy w' row) (hr : Off w row) : w'.ownsRow base e size v n xs := by
  refine h.kept hg ?_
  rcases h.2 with ⟨rfl, _⟩ | ⟨g, cap, cur, rfl, _, hgg, _⟩
  · exact .inl rfl
  · exact .inr fun he' => hr g he'.symm _ _ _ hgg he
theorem OwnRd.keptN {rds : List Rdg} (h : OwnRd w base v rds) (hg : w.grownBy w' row) (hr : Off w row) : OwnRd w' base v rds := by
  obtain ⟨vs, h1, h2, h3⟩ := h
  exact ⟨vs, owns_keptN (by decide) h1 hg hr, fun k r hk => by
    obtain ⟨p, hp, ho, hi⟩ := h2 k r hk
    exact ⟨p, hp, owns_keptN (by decide) ho hg hr, ⟨owns_keptN (by decide) hi.1 hg hr, hi.2⟩⟩, h3⟩
theorem RdV.keptN {rds : List Rdg} (h : RdV w0 w v rds) (hg : w.grownBy w' row) (hr : Off w row) : RdV w0 w' v rds := by
  rcases h with h | h
  · exact .inl (h.keptN hg hr)
  · exact .inr h
theorem OwnPl.keptN {us : List Plc} (h : OwnPl w0 w v us) (hg : w.grownBy w' row) (hr : Off w row) : OwnPl w0 w' v us := by
  obtain ⟨vs, h1, h2⟩ := h
  exact ⟨vs, owns_keptN (by decide) h1 hg hr, fun k u hk => by
    obtain ⟨z, hp, a1, a2, hz⟩ := h2 k u hk
    exact ⟨z, hp, a1, a2, hz.keptN hg hr⟩⟩
/-- a block that holds just these cells -/
def BlkK (W : World) (b : Nat) (cs : Array Value) (t : TypeId) : Prop := W.heap[b]? = some (.cells cs t (0, 0))
variable {b : Nat} {cs : Array Value} {t : TypeId}
theorem BlkK.lt (h : BlkK w b cs t) : b < w.heap.size := (Array.getElem?_eq_some_iff.1 h).1
theorem BlkK.cell (h : BlkK w b cs t) {i : Nat} {u : Value} (hu : cs[i]? = some u) : w.cell? ⟨b, i, none⟩ = some u := by
  simp only [World.cell?, show w.heap[b]? = _ from h]
  simpa using hu
theorem BlkK.below (h : BlkK w b cs t) (hb : Below w.heap.size w w') : BlkK w' b cs t := (hb.block b h.lt).trans h
theorem BlkK.keptN (h : BlkK w b cs t) (hg : w.grownBy w' row) (hr : NoCells w row) : BlkK w' b cs t := by
  refine (hg.block b h.lt fun he => ?_).trans h
  obtain ⟨o, ho, hc⟩ := hr b he.symm
  rw [show w.heap[b]? = _ from h] at ho
  cases ho
  cases hc
/-- a box is none of the call's own rows -/
theorem BlkK.off (h : BlkK w b cs t) (ht : t ∉ ownT) : Off w (some b) := fun r hr cs' t' f hc => by
  cases hr
  rw [show w.heap[b]? = _ from h] at hc
  cases hc
  exact ht
theorem BlkK.new (w : World) (cs : Array Value) (t : TypeId) : BlkK (w.alloc (.cells cs t)) w.heap.size cs t := heap_fresh rfl
theorem BlkK.keptE (h : BlkK w b cs t) (hg : w.grownBy w' row) (hne : some b ≠ row) : BlkK w' b cs t := (hg.block b h.lt hne).trans h
/-- a row of another type is another block -/
theorem BlkK.apart (h : BlkK w b cs t) (h' : w.ownsRow base e size v n xs) (hne : t ≠ e) : some b ≠ v.ownBlock := by
  rcases h'.2 with ⟨rfl, _⟩ | ⟨g, cap, cur, rfl, _, hgg, _⟩
  · simp [Value.ownBlock]
  · intro he
    have : b = g := by simpa [Value.ownBlock] using he
    subst this
    rw [show w.heap[b]? = _ from h] at hgg
    simp at hgg
    exact hne hgg.2
end
end Go.Ap

/-
  Memory that is laid block by block, as it stands in a text: what it reads as.
-/

namespace Go.Ap
open Go Go.RowKit

def allocs (w : World) (l : List Obj) : World := l.foldl World.alloc w
theorem allocs_below : ∀ (l : List Obj) (w : World), Below w.heap.size w (allocs w l)
  | [], _ => Below.refl _ _
  | o :: l, w => bstep (balloc w o) (allocs_below l (w.alloc o))
theorem allocs_at : ∀ {l : List Obj} {w : World} {i : Nat} {o : Obj}, l[i]? = some o → (allocs w l).heap[w.heap.size + i]? = some o
  | [], w, i, o, h => by simp at h
  | p :: l, w, 0, o, h => by
    simp only [List.getElem?_cons_zero, Option.some.injEq] at h
    subst h
    exact ((allocs_below l (w.alloc p)).block _ (by simp)).trans (heap_fresh rfl)
  | p :: l, w, i + 1, o, h => by
    have := allocs_at (l := l) (w := w.alloc p) (i := i) (o := o) (by simpa using h)
    rw [World.size_alloc, Nat.add_assoc, Nat.add_comm 1 i] at this
    exact this
/-- values that read as a list, one by one -/
def AllV {α : Type} (R : World → Value → α → Prop) (w : World) : List Value → List α → Prop
  | [], [] => True
  | v :: vs, x :: xs => R w v x ∧ AllV R w vs xs
  | _, _ => False
theorem AllV.at {α : Type} {R : World → Value → α → Prop} {w : World} : ∀ {vs : List Value} {xs : List α}, AllV R w vs xs → ∀ (k : Nat) (x : α), xs[k]? = some x → ∃ v, vs[k]? = some v ∧ R w v x
  | [], [], _, k, x, h => by simp at h
  | v :: vs, y :: ys, ⟨h1, h2⟩, 0, x, h => by simp at h; subst h; exact ⟨v, rfl, h1⟩
  | v :: vs, y :: ys, ⟨h1, h2⟩, k + 1, x, h => by simp at h; obtain ⟨v', hv, hr⟩ := h2.at k x h; exact ⟨v', by simpa using hv, hr⟩
theorem AllV.len {α : Type} {R : World → Value → α → Prop} {w : World} : ∀ {vs : List Value} {xs : List α}, AllV R w vs xs → xs.length = vs.length
  | [], [], _ => rfl
  | v :: vs, y :: ys, ⟨_, h2⟩ => by rw [List.length_cons, List.length_cons, h2.len]
theorem sl_at {α : Type} {R : World → Value → α → Prop} {w : World} {c : Array Value} {t : TypeId} {f : Nat × Nat} {b n : Nat} {xs : List α} (hb : w.heap[b]? = some (.cells c t f)) (h : AllV R w c.toList xs) (hn : c.toList.length = n) (hs : n ≤ 4611686018427387903) : Sl R w (some ⟨b, 0, none⟩) n xs := by
  refine ⟨by rw [h.len, hn], hs, fun k x hk => ?_⟩
  obtain ⟨v, hv, hr⟩ := h.at k x hk
  exact ⟨b, 0, v, rfl, by rw [Nat.zero_add]; simp only [World.cell?, hb]; simpa using hv, hr⟩
/-- elements of m cells, one by one -/
def AllM {α : Type} (m : Nat) (R : World → Nat → Nat → α → Prop) (w : World) (b : Nat) : Nat → List α → Prop
  | _, [] => True
  | o, x :: xs => R w b o x ∧ AllM m R w b (o + m) xs
theorem AllM.at {α : Type} {m : Nat} {R : World → Nat → Nat → α → Prop} {w : World} {b : Nat} : ∀ {o : Nat} {xs : List α}, AllM m R w b o xs → ∀ (k : Nat) (x : α), xs[k]? = some x → R w b (o + k * m) x
  | o, [], _, k, x, h => by simp at h
  | o, y :: ys, ⟨h1, h2⟩, 0, x, h => by simp at h; subst h; simpa using h1
  | o, y :: ys, ⟨h1, h2⟩, k + 1, x, h => by
    simp at h
    have := h2.at k x h
    rwa [show o + m + k * m = o + (k + 1) * m by rw [Nat.succ_mul]; omega] at this
theorem slM_at {α : Type} {m : Nat} {R : World → Nat → Nat → α → Prop} {w : World} {b n : Nat} {xs : List α} (h : AllM m R w b 0 xs) (hn : xs.length = n) (hs : n ≤ 4611686018427387903) : SlM m R w (some ⟨b, 0, none⟩) n xs :=
  ⟨hn, hs, fun k x hk => ⟨b, 0, rfl, h.at k x hk⟩⟩
theorem blk_cell {w : World} {c : Array Value} {t : TypeId} {f : Nat × Nat} {b i : Nat} {v : Value} (hb : w.heap[b]? = some (.cells c t f)) (hv : c[i]? = some v) : w.cell? ⟨b, i, none⟩ = some v := by
  simp only [World.cell?, hb]; simpa using hv
end Go.Ap
