/-
  Indexes in plain words: what an index has, how much; its heads; that it is valid; several ones.
-/
import Derived.Test.YtngdmpkoedpgdaaGreatDoorDt
namespace Go.Ap
open Go Go.RowKit
/-- the entries of an index -/
def flatE (l : List Post) : List Entry := l.flatMap fun p => p.2.map fun n => (p.1, n)
theorem flatE_mem {l : List Post} {h : Str × Str} {m : Int} : (h, m) ∈ flatE l ↔ ∃ p ∈ l, p.1 = h ∧ m ∈ p.2 := by
  unfold flatE
  rw [List.mem_flatMap]
  constructor
  · rintro ⟨p, hp, hm⟩
    obtain ⟨n, hn, he⟩ := List.mem_map.1 hm
    cases he
    exact ⟨p, hp, rfl, hn⟩
  · rintro ⟨p, hp, rfl, hm⟩
    exact ⟨p, hp, List.mem_map.2 ⟨m, hm, rfl⟩⟩
theorem flatE_idx {es : List Entry} (x : Entry) : x ∈ flatE (idxM mkB es) ↔ x ∈ es := by
  obtain ⟨h, m⟩ := x
  rw [flatE_mem]
  exact ((idx_is mkB es).all h m).symm
theorem idx_same {es es' : List Entry} (h : ∀ x, x ∈ es ↔ x ∈ es') : idxM mkB es = idxM mkB es' := IsIdx.unique (cmp_head mkB) (idx_is mkB es) (idx_is mkB es') h
theorem flatE_app (l l' : List Post) : flatE (l ++ l') = flatE l ++ flatE l' := List.flatMap_append
def countL (l : List Post) : Nat := (l.map fun p => p.2.length).sum
theorem countL_flat (l : List Post) : (flatE l).length = countL l := by
  unfold flatE countL
  rw [List.length_flatMap]
  simp
theorem IsIdx.flat_nodup {es : List Entry} {l : List Post} (H : IsIdx (headM mkB) es l) : (flatE l).Nodup := by
  unfold flatE
  rw [List.Nodup, List.pairwise_flatMap]
  refine ⟨fun p hp => ?_, ?_⟩
  · rw [List.pairwise_map]
    exact (H.lines p hp).imp fun h e => by
      have := (Prod.mk.inj e).2
      omega
  · refine H.asc.imp fun {p q} h x hx y hy e => ?_
    obtain ⟨a, _, rfl⟩ := List.mem_map.1 hx
    obtain ⟨b, _, rfl⟩ := List.mem_map.1 hy
    have := (Prod.mk.inj e).1
    rw [this, (cmp_head mkB).self] at h
    omega
theorem idx_flat_nodup (es : List Entry) : (flatE (idxM mkB es)).Nodup := (idx_is mkB es).flat_nodup
/-- how many lines: the entries, each once -/
theorem count_idx {es ks : List Entry} (hk : ks.Nodup) (hm : ∀ x, x ∈ ks ↔ x ∈ es) : countL (idxM mkB es) = ks.length := by
  rw [← countL_flat]
  exact ((List.perm_ext_iff_of_nodup (idx_flat_nodup es) hk).2 fun x => (flatE_idx x).trans (hm x).symm).length_eq
theorem heads_nodup (es : List Entry) : ((idxM mkB es).map (·.1)).Nodup := by
  rw [List.Nodup, List.pairwise_map]
  exact (idx_is mkB es).asc.imp fun h e => by
    rw [e, (cmp_head mkB).self] at h
    omega
theorem heads_mem (es : List Entry) (h : Str × Str) : h ∈ (idxM mkB es).map (·.1) ↔ ∃ m, (h, m) ∈ es := by
  have H := idx_is mkB es
  rw [List.mem_map]
  constructor
  · rintro ⟨p, hp, rfl⟩
    obtain ⟨n, hn⟩ := List.exists_mem_of_ne_nil _ (H.some p hp)
    exact ⟨n, (H.all p.1 n).2 ⟨p, hp, rfl, hn⟩⟩
  · rintro ⟨m, hm⟩
    obtain ⟨p, hp, h1, _⟩ := (H.all h m).1 hm
    exact ⟨p, hp, h1⟩
/-- two indexes with no head in common -/
theorem idx_apart {es es' : List Entry} (hd : ∀ h m m', (h, m) ∈ es → (h, m') ∉ es') :
    (idxM mkB (es ++ es')).length = (idxM mkB es).length + (idxM mkB es').length ∧ countL (idxM mkB (es ++ es')) = countL (idxM mkB es) + countL (idxM mkB es') := by
  constructor
  · have hn : ((idxM mkB es).map (·.1) ++ (idxM mkB es').map (·.1)).Nodup := by
      rw [List.nodup_append]
      refine ⟨heads_nodup es, heads_nodup es', fun a ha b hb e => ?_⟩
      subst e
      obtain ⟨m, hm⟩ := (heads_mem es a).1 ha
      obtain ⟨m', hm'⟩ := (heads_mem es' a).1 hb
      exact hd _ _ _ hm hm'
    have hp := ((List.perm_ext_iff_of_nodup (heads_nodup (es ++ es')) hn).2 fun x => by
      rw [heads_mem, List.mem_append, heads_mem, heads_mem]
      constructor
      · rintro ⟨m, hm⟩
        rcases List.mem_append.1 hm with h | h
        · exact .inl ⟨m, h⟩
        · exact .inr ⟨m, h⟩
      · rintro (⟨m, h⟩ | ⟨m, h⟩)
        · exact ⟨m, List.mem_append.2 (.inl h)⟩
        · exact ⟨m, List.mem_append.2 (.inr h)⟩).length_eq
    simpa using hp
  · rw [count_idx (es := es ++ es') (ks := flatE (idxM mkB es) ++ flatE (idxM mkB es')) ?_ (fun x => by rw [List.mem_append, List.mem_append, flatE_idx, flatE_idx]), List.length_append, countL_flat, countL_flat]
    rw [List.nodup_append]
    refine ⟨idx_flat_nodup es, idx_flat_nodup es', fun a ha b hb e => ?_⟩
    subst e
    exact hd _ _ _ ((flatE_idx a).1 ha) ((flatE_idx a).1 hb)
/-- lines of all postings: not more than entries -/
theorem withF_len : ∀ (l : List Int) (n : Int), (withF l n).length ≤ l.length + 1
  | [], n => by simp [withF]
  | x :: r, n => by
    rw [withF]
    split
    · have := withF_len r n
      simp only [List.length_cons]
      omega
    · split <;> simp
theorem addF_count {κ : Type} (c : κ → κ → Int) (k : κ) (n : Int) : ∀ l : List (κ × List Int), ((addF c l k n).map fun p => p.2.length).sum ≤ (l.map fun p => p.2.length).sum + 1
  | [] => by simp [addF]
  | p :: r => by
    have ih := addF_count c k n r
    have hw := withF_len p.2 n
    rw [addF]
    split
    · simp only [List.map_cons, List.sum_cons]
      omega
    · split
      · simp only [List.map_cons, List.sum_cons]
        omega
      · simp only [List.map_cons, List.sum_cons, List.length_cons, List.length_nil]
        omega
theorem countL_idx (es : List Entry) : countL (idxM mkB es) ≤ es.length := by
  have key : ∀ (es : List Entry) (l : List Post), countL (es.foldl (fun l e => addF (headM mkB) l e.1 e.2) l) ≤ countL l + es.length := fun es => by
    induction es with
    | nil => intro l; simp
    | cons e r ih =>
      intro l
      have h1 : countL (addF (headM mkB) l e.1 e.2) ≤ countL l + 1 := addF_count (headM mkB) e.1 e.2 l
      have h2 := ih (addF (headM mkB) l e.1 e.2)
      simp only [List.foldl_cons, List.length_cons]
      omega
  have := key es []
  simpa [idxM, countL] using this
theorem le_sum {l : List Post} {p : Post} (hp : p ∈ l) : p.2.length ≤ countL l := by
  unfold countL
  induction l with
  | nil => cases hp
  | cons q r ih =>
    rw [List.map_cons, List.sum_cons]
    rcases List.mem_cons.1 hp with rfl | h
    · omega
    · have := ih h
      omega
/-- the index of valid entries is valid -/
theorem idx_valid {es : List Entry} (hl : es.length ≤ 4096) (he : ∀ x ∈ es, isWordB x.1.1 = true ∧ nameB x.1.2 = true ∧ lineOk x.2 = true) : indexB (idxM mkB es) = true := by
  have H := idx_is mkB es
  have hv : ∀ p ∈ idxM mkB es, validB p = true := fun p hp => by
    have hin : ∀ m ∈ p.2, (p.1, m) ∈ es := fun m hm => (H.all p.1 m).2 ⟨p, hp, rfl, hm⟩
    obtain ⟨n, hn⟩ := List.exists_mem_of_ne_nil _ (H.some p hp)
    obtain ⟨h1, h2, _⟩ := he _ (hin n hn)
    have hlen : p.2.length ≤ 4096 := Nat.le_trans (le_sum hp) (Nat.le_trans (countL_idx es) hl)
    have hpos : 1 ≤ p.2.length := List.length_pos_of_mem hn
    rw [validB_l h1 h2 hpos hlen]
    refine linesB_of fun j hj => ?_
    have e : nth p.2 j = p.2[j] := by simp [nth, hj]
    have h3 := (he _ (hin _ (List.getElem_mem hj))).2.2
    unfold lineOk at h3
    unfold lineB
    rw [e]
    simp only [Bool.and_eq_true, decide_eq_true_eq] at h3
    have h4 : (decide (j = 0) || decide (nth p.2 (j - 1) < p.2[j])) = true := by
      rcases Nat.eq_zero_or_pos j with h0 | h0
      · simp [h0]
      · have e' : nth p.2 (j - 1) = p.2[j - 1] := by simp [nth, show j - 1 < p.2.length by omega]
        have := List.pairwise_iff_getElem.1 (H.lines p hp) (j - 1) j (by omega) hj (by omega)
        rw [e']
        simp [this]
    simp only [h3, decide_true, Bool.true_and]
    exact h4
  have ha : ascB (idxM mkB es) = true := ascB_of fun j hj => by
    unfold ascAt
    rcases Nat.eq_zero_or_pos j with h0 | h0
    · simp [h0]
    · rw [nthP_eq (List.getElem?_eq_getElem hj), nthP_eq (List.getElem?_eq_getElem (show j - 1 < (idxM mkB es).length by omega))]
      have := List.pairwise_iff_getElem.1 H.asc (j - 1) j (by omega) hj (by omega)
      simp [this]
  have hc : (idxM mkB es).length ≤ 4096 := Nat.le_trans (idx_count mkB es) hl
  unfold indexB
  rw [ha]
  simp only [hc, decide_true, Bool.true_and, Bool.and_true, Bool.not_eq_true']
  rw [List.any_eq_false]
  intro p hp
  simp [hv p hp]
/-- has: a word with a line -/
def hasB (l : List Post) (w s : Str) (n : Int) : Bool := l.any fun p => decide (p.1.1 = w) && decide (p.1.2 = s) && p.2.contains n
theorem hasB_idx {es : List Entry} {w s : Str} {n : Int} (h : ((w, s), n) ∈ es) : hasB (idxM mkB es) w s n = true := by
  obtain ⟨p, hp, h1, h2⟩ := ((idx_is mkB es).all (w, s) n).1 h
  unfold hasB
  rw [List.any_eq_true]
  refine ⟨p, hp, ?_⟩
  rw [h1]
  simp [h2]
/-- words of one section -/
theorem wordsEs_mem {sec : Str} {ps : List (Str × Int)} {x : Entry} : x ∈ wordsEs sec ps ↔ ∃ p ∈ ps, isWordB p.1 = true ∧ x = ((p.1, sec), p.2) := by
  unfold wordsEs
  rw [List.mem_flatMap]
  constructor
  · rintro ⟨p, hp, hx⟩
    unfold entOf at hx
    split at hx
    · rename_i h
      rw [List.mem_singleton] at hx
      exact ⟨p, hp, h, hx⟩
    · cases hx
  · rintro ⟨p, hp, h, rfl⟩
    refine ⟨p, hp, ?_⟩
    unfold entOf
    rw [if_pos h]
    exact List.mem_singleton.2 rfl
theorem idx_sec {sec : Str} {ps : List (Str × Int)} {p : Post} (hp : p ∈ idxM mkB (wordsEs sec ps)) : p.1.2 = sec := by
  obtain ⟨m, hm⟩ := (heads_mem _ p.1).1 (List.mem_map.2 ⟨p, hp, rfl⟩)
  obtain ⟨q, _, _, he⟩ := wordsEs_mem.1 hm
  rw [(Prod.mk.inj he).1]
theorem words_valid {sec : Str} {ps : List (Str × Int)} (hl : ps.length ≤ 4096) (hs : nameB sec = true) (hn : ∀ p ∈ ps, lineOk p.2 = true) : indexB (idxM mkB (wordsEs sec ps)) = true :=
  idx_valid (Nat.le_trans (wordsEs_len sec ps) hl) fun x hx => by
    obtain ⟨p, hp, h1, rfl⟩ := wordsEs_mem.1 hx
    exact ⟨h1, hs, hn p hp⟩
/-- words of one section stand in dictionary order -/
theorem idx_dict {sec : Str} {ps : List (Str × Int)} {i : Nat} {p q : Post} (hp : (idxM mkB (wordsEs sec ps))[i]? = some p) (hq : (idxM mkB (wordsEs sec ps))[i + 1]? = some q) : dictM mkB p.1.1 q.1.1 < 0 := by
  have H := idx_is mkB (wordsEs sec ps)
  obtain ⟨hi, rfl⟩ := List.getElem?_eq_some_iff.1 hp
  obtain ⟨hj, rfl⟩ := List.getElem?_eq_some_iff.1 hq
  have h := List.pairwise_iff_getElem.1 H.asc i (i + 1) hi hj (by omega)
  have e1 := idx_sec (List.getElem_mem hi)
  have e2 := idx_sec (List.getElem_mem hj)
  unfold headM lexQ at h
  split at h
  · rw [e1, e2] at h
    have := cmp_str.self sec
    omega
  · exact h
/-- the index of two texts, one after the other -/
theorem wordsEs_app (sec : Str) (ps qs : List (Str × Int)) : wordsEs sec (ps ++ qs) = wordsEs sec ps ++ wordsEs sec qs := List.flatMap_append
end Go.Ap
