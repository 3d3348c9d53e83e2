import Derived.Test.YtngdmpkoedpgdaaGreatDoorIp
import Derived.Test.YtngdmpkoedpgdaaGreatDoorQ2
import Derived.Lib.ItoaLen

/-
  A concordance in plain words: entries of words, groups, print, find.
-/



namespace Go.Ap
open Go Go.RowKit
abbrev Entry := (Str × Str) × Int
def lineOk (n : Int) : Bool := decide (1 ≤ n) && decide (n ≤ 4096)
/-- the entries of words with their lines -/
def entOf (sec : Str) (p : Str × Int) : List Entry := if isWordB p.1 then [((p.1, sec), p.2)] else []
def wordsEs (sec : Str) (ps : List (Str × Int)) : List Entry := ps.flatMap (entOf sec)
def wordsC (sec : Str) (ws : List Str) (ls : List Int) : Int :=
  if nameB sec = false then 14 else if 4096 < ws.length then 4 else if ls.length ≠ ws.length then 9 else if (ls.any fun n => !lineOk n) = true then 2 else 0
/-- the lines of a head -/
def grpOf (es : List Entry) (s : Str × Str) : List Int := (es.filter fun e => decide (e.1 = s)).map (·.2)
theorem grpOf_mem {es : List Entry} {h : Str × Str} {m : Int} : (h, m) ∈ es ↔ m ∈ grpOf es h := by
  unfold grpOf
  rw [List.mem_map]
  constructor
  · intro he
    exact ⟨(h, m), List.mem_filter.2 ⟨he, by simp⟩, rfl⟩
  · rintro ⟨e, he, rfl⟩
    obtain ⟨h1, h2⟩ := List.mem_filter.1 he
    have h3 : e.1 = h := of_decide_eq_true h2
    subst h3
    exact h1
theorem grpOf_add (es : List Entry) (s : Str × Str) (xs : List Int) : updG (grpOf es) s (grpOf es s ++ xs) = grpOf (es ++ xs.map fun x => (s, x)) := by
  funext t
  unfold updG grpOf
  rw [List.filter_append, List.map_append]
  by_cases h : t = s
  · subst h
    rw [if_pos rfl]
    congr 1
    rw [List.filter_eq_self.2 (by simp), List.map_map]
    exact (List.map_id xs).symm
  · rw [if_neg h]
    have : (xs.map fun x => (s, x)).filter (fun e : Entry => decide (e.1 = t)) = [] := by
      rw [List.filter_eq_nil_iff]
      intro e he
      obtain ⟨x, _, rfl⟩ := List.mem_map.1 he
      simp only [decide_eq_true_eq]
      exact fun e => h e.symm
    rw [this]
    simp
theorem grpOf_len (es : List Entry) (s : Str × Str) : (grpOf es s).length ≤ es.length := by
  unfold grpOf
  rw [List.length_map]
  exact List.length_filter_le _ _
theorem grpOf_nil : grpOf [] = fun _ => [] := rfl
theorem take_snoc {α : Type} {l : List α} {i : Nat} {x : α} (h : l[i]? = some x) : l.take (i + 1) = l.take i ++ [x] := by
  rw [List.take_add_one, h]
  rfl
theorem wordsEs_snoc (sec : Str) {ps : List (Str × Int)} {i : Nat} {p : Str × Int} (h : ps[i]? = some p) : wordsEs sec (ps.take (i + 1)) = wordsEs sec (ps.take i) ++ entOf sec p := by
  unfold wordsEs
  rw [take_snoc h, List.flatMap_append]
  simp
theorem wordsEs_len (sec : Str) (ps : List (Str × Int)) : (wordsEs sec ps).length ≤ ps.length := by
  induction ps with
  | nil => simp [wordsEs]
  | cons p r ih =>
    have : wordsEs sec (p :: r) = entOf sec p ++ wordsEs sec r := rfl
    rw [this, List.length_append, List.length_cons]
    have : (entOf sec p).length ≤ 1 := by unfold entOf; split <;> simp
    omega
theorem zip_at {ws : List Str} {ls : List Int} {i : Nat} {x : Str} {y : Int} (h1 : ws[i]? = some x) (h2 : ls[i]? = some y) : (ws.zip ls)[i]? = some (x, y) := by
  rw [List.getElem?_zip_eq_some]
  exact ⟨h1, h2⟩
theorem Grp.le {κ : Type} {P : Program} {t k e ie : TypeId} {T : MapV P t k e κ} {w : World} {b base n m : Nat} {g : κ → List Int} (h : Grp T ie w b base n g) (hm : n ≤ m) : Grp T ie w b base m g := by
  obtain ⟨f, h1, h2⟩ := h
  exact ⟨f, h1.mono hm, h2⟩
theorem Grp.ne {κ : Type} {P : Program} {t k e ie ty : TypeId} {T : MapV P t k e κ} {w : World} {b base n X : Nat} {cs : Array Value} {g : κ → List Int} (h : Grp T ie w b base n g) (hK : BlkK w X cs ty) : some X ≠ some b := by
  obtain ⟨f, h1, _⟩ := h
  obtain ⟨o, h2, h3⟩ := h1.obj
  intro e
  obtain rfl : X = b := by simpa using e
  rw [show w.heap[X]? = _ from hK] at h2
  cases h2
  cases h3
theorem OwnI.push1 {e : TypeId} {w w1 : World} {base : Nat} {v v' : Value} {xs : List Int} {x : Int} (h : OwnI e w base v xs) (hx : I64 x) (hown : w1.ownsRow base e 1 v' (xs.length + 1) (xs.map (Value.int .i64) ++ [.int .i64 x])) : OwnI e w1 base v' (xs ++ [x]) := by
  refine ⟨by simpa using hown, fun y hy => ?_⟩
  rcases List.mem_append.1 hy with h1 | h1
  · exact h.2 y h1
  · rw [List.mem_singleton] at h1
    rw [h1]
    exact hx
/-- the text of a posting -/
def lineT (n : Int) : Str := 32 :: Lib.itoa n
def postT (p : Post) : Str := p.1.1 ++ (32 :: p.1.2) ++ p.2.flatMap lineT ++ [10]
def textS (l : List Post) : Str := l.flatMap postT
/-- small letters, no marks -/
def formS (s : Str) : Str := foldS (plainM mkB s)
def findS (l : List Post) (w : Str) : List Post := l.filter fun p => decide (formS p.1.1 = formS w)
/-- bounds -/
theorem lineT_len {n : Int} (h0 : -9223372036854775808 ≤ n) (h1 : n ≤ 9223372036854775807) : (lineT n).length ≤ 22 := by
  have := Lib.itoa_length_le n h0 h1
  unfold lineT
  rw [List.length_cons]
  omega
theorem flat_len {α : Type} {f : α → Str} {k : Nat} : ∀ {l : List α}, (∀ x ∈ l, (f x).length ≤ k) → (l.flatMap f).length ≤ k * l.length
  | [], _ => by simp
  | x :: r, h => by
    rw [List.flatMap_cons, List.length_append, List.length_cons, Nat.mul_succ]
    have h1 := h x (List.mem_cons_self ..)
    have h2 := flat_len (l := r) fun y hy => h y (List.mem_cons_of_mem _ hy)
    omega
theorem isWordB_64 {s : Str} (h : isWordB s = true) : s.length ≤ 64 := by
  unfold isWordB at h
  simp only [Bool.and_eq_true, decide_eq_true_eq] at h
  exact h.1.1.1.2
theorem nameB_16 {s : Str} (h : nameB s = true) : s.length ≤ 16 := by
  unfold nameB at h
  simp only [Bool.and_eq_true, decide_eq_true_eq] at h
  exact h.1.2
theorem validB_parts {p : Post} (h : validB p = true) : isWordB p.1.1 = true ∧ nameB p.1.2 = true ∧ p.2.length ≤ 4096 ∧ ∀ n ∈ p.2, 1 ≤ n ∧ n ≤ 4096 := by
  unfold validB at h
  simp only [Bool.and_eq_true, decide_eq_true_eq] at h
  obtain ⟨⟨⟨⟨h1, h2⟩, h3⟩, h4⟩, h5⟩ := h
  refine ⟨h1, h2, h4, fun n hn => ?_⟩
  obtain ⟨j, hj, rfl⟩ := List.getElem_of_mem hn
  have := List.all_eq_true.1 h5 j (List.mem_range.2 hj)
  unfold lineB at this
  simp only [Bool.and_eq_true, decide_eq_true_eq] at this
  have e : nth p.2 j = p.2[j] := by simp [nth, hj]
  rw [e] at this
  exact this.1
theorem indexB_valid {l : List Post} (h : indexB l = true) : l.length ≤ 4096 ∧ ∀ p ∈ l, validB p = true := by
  unfold indexB at h
  simp only [Bool.and_eq_true, decide_eq_true_eq] at h
  refine ⟨h.1.1, fun p hp => ?_⟩
  have := h.1.2
  rw [Bool.not_eq_true', List.any_eq_false] at this
  simpa using this p hp
theorem postT_len {p : Post} (h : validB p = true) : (postT p).length ≤ 100000 := by
  obtain ⟨h1, h2, h3, h4⟩ := validB_parts h
  have := isWordB_64 h1
  have := nameB_16 h2
  have h5 := flat_len (f := lineT) (k := 22) (l := p.2) fun n hn => lineT_len (by have := h4 n hn; omega) (by have := h4 n hn; omega)
  unfold postT
  simp only [List.length_append, List.length_cons, List.length_nil]
  omega
theorem textS_len {l : List Post} (h : indexB l = true) : (textS l).length ≤ 409600000 := by
  obtain ⟨h1, h2⟩ := indexB_valid h
  have := flat_len (f := postT) (k := 100000) (l := l) fun p hp => postT_len (h2 p hp)
  unfold textS
  omega
end Go.Ap

/-
  Indexes in plain words: what an index has, how much; its heads; that it is valid; several ones.
-/

namespace Go.Ap
open Go Go.RowKit
/-- the entries of an index -/
def flatE (l : List Post) : List Entry := l.flatMap fun p => p.2.map fun n => (p.1, n)
theorem flatE_mem {l : List Post} {h : Str × Str} {m : Int} : (h, m) ∈ flatE l ↔ ∃ p ∈ l, p.1 = h ∧ m ∈ p.2 := by
  unfold flatE
  rw [List.mem_flatMap]
  constructor
  · rintro ⟨p, hp, hm⟩
    obtain ⟨n, hn, he⟩ := List.mem_map.1 hm
    cases he
    exact ⟨p, hp, rfl, hn⟩
  · rintro ⟨p, hp, rfl, hm⟩
    exact ⟨p, hp, List.mem_map.2 ⟨m, hm, rfl⟩⟩
theorem flatE_idx {es : List Entry} (x : Entry) : x ∈ flatE (idxM mkB es) ↔ x ∈ es := by
  obtain ⟨h, m⟩ := x
  rw [flatE_mem]
  exact ((idx_is mkB es).all h m).symm
theorem idx_same {es es' : List Entry} (h : ∀ x, x ∈ es ↔ x ∈ es') : idxM mkB es = idxM mkB es' := IsIdx.unique (cmp_head mkB) (idx_is mkB es) (idx_is mkB es') h
theorem flatE_app (l l' : List Post) : flatE (l ++ l') = flatE l ++ flatE l' := List.flatMap_append
def countL (l : List Post) : Nat := (l.map fun p => p.2.length).sum
theorem countL_flat (l : List Post) : (flatE l).length = countL l := by
  unfold flatE countL
  rw [List.length_flatMap]
  simp
theorem IsIdx.flat_nodup {es : List Entry} {l : List Post} (H : IsIdx (headM mkB) es l) : (flatE l).Nodup := by
  unfold flatE
  rw [List.Nodup, List.pairwise_flatMap]
  refine ⟨fun p hp => ?_, ?_⟩
  · rw [List.pairwise_map]
    exact (H.lines p hp).imp fun h e => by
      have := (Prod.mk.inj e).2
      omega
  · refine H.asc.imp fun {p q} h x hx y hy e => ?_
    obtain ⟨a, _, rfl⟩ := List.mem_map.1 hx
    obtain ⟨b, _, rfl⟩ := List.mem_map.1 hy
    have := (Prod.mk.inj e).1
    rw [this, (cmp_head mkB).self] at h
    omega
theorem idx_flat_nodup (es : List Entry) : (flatE (idxM mkB es)).Nodup := (idx_is mkB es).flat_nodup
/-- how many lines: the entries, each once -/
theorem count_idx {es ks : List Entry} (hk : ks.Nodup) (hm : ∀ x, x ∈ ks ↔ x ∈ es) : countL (idxM mkB es) = ks.length := by
  rw [← countL_flat]
  exact ((List.perm_ext_iff_of_nodup (idx_flat_nodup es) hk).2 fun x => (flatE_idx x).trans (hm x).symm).length_eq
theorem heads_nodup (es : List Entry) : ((idxM mkB es).map (·.1)).Nodup := by
  rw [List.Nodup, List.pairwise_map]
  exact (idx_is mkB es).asc.imp fun h e => by
    rw [e, (cmp_head mkB).self] at h
    omega
theorem heads_mem (es : List Entry) (h : Str × Str) : h ∈ (idxM mkB es).map (·.1) ↔ ∃ m, (h, m) ∈ es := by
  have H := idx_is mkB es
  rw [List.mem_map]
  constructor
  · rintro ⟨p, hp, rfl⟩
    obtain ⟨n, hn⟩ := List.exists_mem_of_ne_nil _ (H.some p hp)
    exact ⟨n, (H.all p.1 n).2 ⟨p, hp, rfl, hn⟩⟩
  · rintro ⟨m, hm⟩
    obtain ⟨p, hp, h1, _⟩ := (H.all h m).1 hm
    exact ⟨p, hp, h1⟩
/-- two indexes with no head in common -/
theorem idx_apart {es es' : List Entry} (hd : ∀ h m m', (h, m) ∈ es → (h, m') ∉ es') :
    (idxM mkB (es ++ es')).length = (idxM mkB es).length + (idxM mkB es').length ∧ countL (idxM mkB (es ++ es')) = countL (idxM mkB es) + countL (idxM mkB es') := by
  constructor
  · have hn : ((idxM mkB es).map (·.1) ++ (idxM mkB es').map (·.1)).Nodup := by
      rw [List.nodup_append]
      refine ⟨heads_nodup es, heads_nodup es', fun a ha b hb e => ?_⟩
      subst e
      obtain ⟨m, hm⟩ := (heads_mem es a).1 ha
      obtain ⟨m', hm'⟩ := (heads_mem es' a).1 hb
      exact hd _ _ _ hm hm'
    have hp := ((List.perm_ext_iff_of_nodup (heads_nodup (es ++ es')) hn).2 fun x => by
      rw [heads_mem, List.mem_append, heads_mem, heads_mem]
      constructor
      · rintro ⟨m, hm⟩
        rcases List.mem_append.1 hm with h | h
        · exact .inl ⟨m, h⟩
        · exact .inr ⟨m, h⟩
      · rintro (⟨m, h⟩ | ⟨m, h⟩)
        · exact ⟨m, List.mem_append.2 (.inl h)⟩
        · exact ⟨m, List.mem_append.2 (.inr h)⟩).length_eq
    simpa using hp
  · rw [count_idx (es := es ++ es') (ks := flatE (idxM mkB es) ++ flatE (idxM mkB es')) ?_ (fun x => by rw [List.mem_append, List.mem_append, flatE_idx, flatE_idx]), List.length_append, countL_flat, countL_flat]
    rw [List.nodup_append]
    refine ⟨idx_flat_nodup es, idx_flat_nodup es', fun a ha b hb e => ?_⟩
    subst e
    exact hd _ _ _ ((flatE_idx a).1 ha) ((flatE_idx a).1 hb)
/-- lines of all postings: not more than entries -/
theorem withF_len : ∀ (l : List Int) (n : Int), (withF l n).length ≤ l.length + 1
  | [], n => by simp [withF]
  | x :: r, n => by
    rw [withF]
    split
    · have := withF_len r n
      simp only [List.length_cons]
      omega
    · split <;> simp
theorem addF_count {κ : Type} (c : κ → κ → Int) (k : κ) (n : Int) : ∀ l : List (κ × List Int), ((addF c l k n).map fun p => p.2.length).sum ≤ (l.map fun p => p.2.length).sum + 1
  | [] => by simp [addF]
  | p :: r => by
    have ih := addF_count c k n r
    have hw := withF_len p.2 n
    rw [addF]
    split
    · simp only [List.map_cons, List.sum_cons]
      omega
    · split
      · simp only [List.map_cons, List.sum_cons]
        omega
      · simp only [List.map_cons, List.sum_cons, List.length_cons, List.length_nil]
        omega
theorem countL_idx (es : List Entry) : countL (idxM mkB es) ≤ es.length := by
  have key : ∀ (es : List Entry) (l : List Post), countL (es.foldl (fun l e => addF (headM mkB) l e.1 e.2) l) ≤ countL l + es.length := fun es => by
    induction es with
    | nil => intro l; simp
    | cons e r ih =>
      intro l
      have h1 : countL (addF (headM mkB) l e.1 e.2) ≤ countL l + 1 := addF_count (headM mkB) e.1 e.2 l
      have h2 := ih (addF (headM mkB) l e.1 e.2)
      simp only [List.foldl_cons, List.length_cons]
      omega
  have := key es []
  simpa [idxM, countL] using this
theorem le_sum {l : List Post} {p : Post} (hp : p ∈ l) : p.2.length ≤ countL l := by
  unfold countL
  induction l with
  | nil => cases hp
  | cons q r ih =>
    rw [List.map_cons, List.sum_cons]
    rcases List.mem_cons.1 hp with rfl | h
    · omega
    · have := ih h
      omega
/-- the index of valid entries is valid -/
theorem idx_valid {es : List Entry} (hl : es.length ≤ 4096) (he : ∀ x ∈ es, isWordB x.1.1 = true ∧ nameB x.1.2 = true ∧ lineOk x.2 = true) : indexB (idxM mkB es) = true := by
  have H := idx_is mkB es
  have hv : ∀ p ∈ idxM mkB es, validB p = true := fun p hp => by
    have hin : ∀ m ∈ p.2, (p.1, m) ∈ es := fun m hm => (H.all p.1 m).2 ⟨p, hp, rfl, hm⟩
    obtain ⟨n, hn⟩ := List.exists_mem_of_ne_nil _ (H.some p hp)
    obtain ⟨h1, h2, _⟩ := he _ (hin n hn)
    have hlen : p.2.length ≤ 4096 := Nat.le_trans (le_sum hp) (Nat.le_trans (countL_idx es) hl)
    have hpos : 1 ≤ p.2.length := List.length_pos_of_mem hn
    rw [validB_l h1 h2 hpos hlen]
    refine linesB_of fun j hj => ?_
    have e : nth p.2 j = p.2[j] := by simp [nth, hj]
    have h3 := (he _ (hin _ (List.getElem_mem hj))).2.2
    unfold lineOk at h3
    unfold lineB
    rw [e]
    simp only [Bool.and_eq_true, decide_eq_true_eq] at h3
    have h4 : (decide (j = 0) || decide (nth p.2 (j - 1) < p.2[j])) = true := by
      rcases Nat.eq_zero_or_pos j with h0 | h0
      · simp [h0]
      · have e' : nth p.2 (j - 1) = p.2[j - 1] := by simp [nth, show j - 1 < p.2.length by omega]
        have := List.pairwise_iff_getElem.1 (H.lines p hp) (j - 1) j (by omega) hj (by omega)
        rw [e']
        simp [this]
    simp only [h3, decide_true, Bool.true_and]
    exact h4
  have ha : ascB (idxM mkB es) = true := ascB_of fun j hj => by
    unfold ascAt
    rcases Nat.eq_zero_or_pos j with h0 | h0
    · simp [h0]
    · rw [nthP_eq (List.getElem?_eq_getElem hj), nthP_eq (List.getElem?_eq_getElem (show j - 1 < (idxM mkB es).length by omega))]
      have := List.pairwise_iff_getElem.1 H.asc (j - 1) j (by omega) hj (by omega)
      simp [this]
  have hc : (idxM mkB es).length ≤ 4096 := Nat.le_trans (idx_count mkB es) hl
  unfold indexB
  rw [ha]
  simp only [hc, decide_true, Bool.true_and, Bool.and_true, Bool.not_eq_true']
  rw [List.any_eq_false]
  intro p hp
  simp [hv p hp]
/-- has: a word with a line -/
def hasB (l : List Post) (w s : Str) (n : Int) : Bool := l.any fun p => decide (p.1.1 = w) && decide (p.1.2 = s) && p.2.contains n
theorem hasB_idx {es : List Entry} {w s : Str} {n : Int} (h : ((w, s), n) ∈ es) : hasB (idxM mkB es) w s n = true := by
  obtain ⟨p, hp, h1, h2⟩ := ((idx_is mkB es).all (w, s) n).1 h
  unfold hasB
  rw [List.any_eq_true]
  refine ⟨p, hp, ?_⟩
  rw [h1]
  simp [h2]
/-- words of one section -/
theorem wordsEs_mem {sec : Str} {ps : List (Str × Int)} {x : Entry} : x ∈ wordsEs sec ps ↔ ∃ p ∈ ps, isWordB p.1 = true ∧ x = ((p.1, sec), p.2) := by
  unfold wordsEs
  rw [List.mem_flatMap]
  constructor
  · rintro ⟨p, hp, hx⟩
    unfold entOf at hx
    split at hx
    · rename_i h
      rw [List.mem_singleton] at hx
      exact ⟨p, hp, h, hx⟩
    · cases hx
  · rintro ⟨p, hp, h, rfl⟩
    refine ⟨p, hp, ?_⟩
    unfold entOf
    rw [if_pos h]
    exact List.mem_singleton.2 rfl
theorem idx_sec {sec : Str} {ps : List (Str × Int)} {p : Post} (hp : p ∈ idxM mkB (wordsEs sec ps)) : p.1.2 = sec := by
  obtain ⟨m, hm⟩ := (heads_mem _ p.1).1 (List.mem_map.2 ⟨p, hp, rfl⟩)
  obtain ⟨q, _, _, he⟩ := wordsEs_mem.1 hm
  rw [(Prod.mk.inj he).1]
theorem words_valid {sec : Str} {ps : List (Str × Int)} (hl : ps.length ≤ 4096) (hs : nameB sec = true) (hn : ∀ p ∈ ps, lineOk p.2 = true) : indexB (idxM mkB (wordsEs sec ps)) = true :=
  idx_valid (Nat.le_trans (wordsEs_len sec ps) hl) fun x hx => by
    obtain ⟨p, hp, h1, rfl⟩ := wordsEs_mem.1 hx
    exact ⟨h1, hs, hn p hp⟩
/-- words of one section stand in dictionary order -/
theorem idx_dict {sec : Str} {ps : List (Str × Int)} {i : Nat} {p q : Post} (hp : (idxM mkB (wordsEs sec ps))[i]? = some p) (hq : (idxM mkB (wordsEs sec ps))[i + 1]? = some q) : dictM mkB p.1.1 q.1.1 < 0 := by
  have H := idx_is mkB (wordsEs sec ps)
  obtain ⟨hi, rfl⟩ := List.getElem?_eq_some_iff.1 hp
  obtain ⟨hj, rfl⟩ := List.getElem?_eq_some_iff.1 hq
  have h := List.pairwise_iff_getElem.1 H.asc i (i + 1) hi hj (by omega)
  have e1 := idx_sec (List.getElem_mem hi)
  have e2 := idx_sec (List.getElem_mem hj)
  unfold headM lexQ at h
  split at h
  · rw [e1, e2] at h
    have := cmp_str.self sec
    omega
  · exact h
/-- the index of two texts, one after the other -/
theorem wordsEs_app (sec : Str) (ps qs : List (Str × Int)) : wordsEs sec (ps ++ qs) = wordsEs sec ps ++ wordsEs sec qs := List.flatMap_append
end Go.Ap

/-
  Searches in lists of ints and of strings by a function.
-/


namespace Go.Proofs.YtngdmpkoedpgdaaGreatDoor
open Go.RowKit Go.Ap Go.Shelf Go.Proofs

attribute [local go_sem] Oper.semAt_some bs_toList empty_toList bs_size bs_extract

set_option maxHeartbeats 400000 in
theorem idxInt (p : Int → Bool) (a : Option Addr) (n c : Nat) (xs : List Int) (g : Nat) (cap : Array Value) (w : World) (h : Ints w a n xs)
    (eg : ∀ args w, (callFunc g args).run Tryz.prog w = .ok (.enter g args) w)
    (hp : ∀ q x, x ∈ xs → Calls Tryz.prog g (#[.int .i64 x] ++ cap) (w.drewN q) fun e w' => e = .returned (.bool (p x)) ∧ ∃ r, w' = (w.drewN q).drewN r) :
    Calls Tryz.prog 120 #[.slice a n c, .func (.func g) #[] cap] w fun e w' => e = .returned (.int .i64 (idxF p xs)) ∧ ∃ q, w' = w.drewN q := by
  have hlen := h.len
  have hsm := h.small
  have HL := Lib.hid hlen
  have HP := Lib.hid hp
  clear hlen hp
  go_enter Tryz.func120, Tryz.ntmps120
  go_wp2_with (fail)
  go_loopw [8] (fun i wr => ∃ (k q : Nat), k ≤ n ∧ i = .int .i64 k ∧ wr = w.drewN q ∧ idxG (pAt p xs) (n - k) k = idxF p xs) (fun i _ => n - (intOf i).toNat)
  case atStart => exact ⟨0, 0, by omega, rfl, rfl, by unfold idxF; rw [HL.out]; rfl⟩
  case round =>
    obtain ⟨k, q, hk, rfl, rfl, hch⟩ := hrel
    have HC := Lib.hid hch
    clear hch
    by_cases hlt : k < n
    · obtain ⟨x, b, off, v, hx, rfl, hc, hr, _⟩ := Sl.at h hlt
      subst hr
      obtain ⟨f, hf⟩ : ∃ f, n - k = f + 1 := ⟨n - k - 1, by omega⟩
      have HF := Lib.hid hf
      have hpa : pAt p xs k = p x := by simp [pAt, hx]
      have HPA := Lib.hid hpa
      have HX := Lib.hid (List.mem_of_getElem? hx)
      clear hf hx hpa
      go_wp2_with (fail)
      refine (HP.out q x HX.out).mono ?_
      rintro e w' ⟨rfl, r, rfl⟩
      cases hpx : p x
      all_goals
        have HPX := Lib.hid hpx
        clear hpx
        go_wp2_with (fail)
      · exact ⟨⟨k + 1, _, by omega, by go_num, rfl, by rw [← HC.out, HF.out, idxG_no (HPA.out.trans HPX.out), show n - (k + 1) = f by have := HF.out; omega]⟩, by simp [intOf]; omega⟩
      · go_ret
        exact ⟨ret_i (by rw [← HC.out, HF.out, idxG_yes (HPA.out.trans HPX.out)]), _, rfl⟩
    · go_wp2_with (fail)
      go_ret
      exact ⟨ret_i (by rw [← HC.out, show n - k = 0 by omega, idxG]), _, rfl⟩
set_option maxHeartbeats 400000 in
theorem contInt (p : Int → Bool) (a : Option Addr) (n c : Nat) (xs : List Int) (g : Nat) (cap : Array Value) (w : World) (h : Ints w a n xs)
    (eg : ∀ args w, (callFunc g args).run Tryz.prog w = .ok (.enter g args) w)
    (hp : ∀ q x, x ∈ xs → Calls Tryz.prog g (#[.int .i64 x] ++ cap) (w.drewN q) fun e w' => e = .returned (.bool (p x)) ∧ ∃ r, w' = (w.drewN q).drewN r) :
    Calls Tryz.prog 61 #[.slice a n c, .func (.func g) #[] cap] w fun e w' => e = .returned (.bool (xs.any p)) ∧ ∃ q, w' = w.drewN q := by
  have H := Lib.hid (idxInt p a n c xs g cap w h eg hp)
  clear hp eg
  go_enter Tryz.func61, Tryz.ntmps61
  go_wp2_with (fail)
  refine (H.out).mono ?_
  rintro e w' ⟨rfl, q, rfl⟩
  go_wp2_with (fail)
  go_ret
  exact ⟨ret_b (idxF_any p xs), _, rfl⟩
set_option maxHeartbeats 1000000 in
theorem idxStr (p : Str → Bool) (a : Option Addr) (n c : Nat) (xs : List Str) (g : Nat) (cap : Array Value) (w : World) (h : StrsL w a n xs)
    (eg : ∀ args w, (callFunc g args).run Tryz.prog w = .ok (.enter g args) w)
    (hp : ∀ u ∈ xs, ∀ W, Below w.heap.size w W → Calls Tryz.prog g (#[.string (bs u)] ++ cap) W fun e w' => e = .returned (.bool (p u)) ∧ Below W.heap.size W w') :
    Calls Tryz.prog 118 #[.slice a n c, .func (.func g) #[] cap] w fun e w' => e = .returned (.int .i64 (idxF p xs)) ∧ Below w.heap.size w w' := by
  have hlen := h.len
  have hsm := h.small
  have HL := Lib.hid hlen
  have HP := Lib.hid hp
  have HX := Lib.hid h
  clear hlen hp h
  go_enter Tryz.func118, Tryz.ntmps118
  go_wp2_with (fail)
  go_loopw [8] (fun i wr => ∃ k : Nat, k ≤ n ∧ i = .int .i64 k ∧ Below w.heap.size w wr ∧ idxG (pAt p xs) (n - k) k = idxF p xs) (fun i _ => n - (intOf i).toNat)
  case atStart => exact ⟨0, by omega, rfl, Below.refl _ _, by unfold idxF; rw [HL.out]; rfl⟩
  case round =>
    obtain ⟨k, hk, rfl, hb, hch⟩ := hrel
    have HC := Lib.hid hch
    have HB := Lib.hid hb
    clear hch
    by_cases hlt : k < n
    · obtain ⟨t, b, off, v, ht, rfl, hcv, rfl, _⟩ := Sl.at (HX.out.mono (Nat.le_refl _) hb) hlt
      obtain ⟨f, hf⟩ : ∃ f, n - k = f + 1 := ⟨n - k - 1, by omega⟩
      have HF := Lib.hid hf
      have HPA := Lib.hid (show pAt p xs k = p t by simp [pAt, ht])
      have HCALL := Lib.hid (HP.out t (List.mem_of_getElem? ht) wr hb)
      unfold sv at hcv
      clear hf ht hb
      go_wp2_with (fail)
      refine HCALL.out.mono ?_
      rintro e w' ⟨rfl, hb2⟩
      have HB2 := Lib.hid (bstep HB.out hb2)
      clear hb2
      cases hpx : p t
      all_goals
        have HPX := Lib.hid hpx
        clear hpx
        go_wp2_with (fail)
      · exact ⟨⟨k + 1, by omega, by go_num, HB2.out, by rw [← HC.out, HF.out, idxG_no (HPA.out.trans HPX.out), show n - (k + 1) = f by have := HF.out; omega]⟩, by simp [intOf]; omega⟩
      · go_ret
        exact ⟨ret_i (by rw [← HC.out, HF.out, idxG_yes (HPA.out.trans HPX.out)]), HB2.out⟩
    · go_wp2_with (fail)
      go_ret
      exact ⟨ret_i (by rw [← HC.out, show n - k = 0 by omega, idxG]), HB.out⟩
set_option maxHeartbeats 1000000 in
theorem contStr (p : Str → Bool) (a : Option Addr) (n c : Nat) (xs : List Str) (g : Nat) (cap : Array Value) (w : World) (h : StrsL w a n xs)
    (eg : ∀ args w, (callFunc g args).run Tryz.prog w = .ok (.enter g args) w)
    (hp : ∀ u ∈ xs, ∀ W, Below w.heap.size w W → Calls Tryz.prog g (#[.string (bs u)] ++ cap) W fun e w' => e = .returned (.bool (p u)) ∧ Below W.heap.size W w') :
    Calls Tryz.prog 58 #[.slice a n c, .func (.func g) #[] cap] w fun e w' => e = .returned (.bool (xs.any p)) ∧ Below w.heap.size w w' := by
  have H := Lib.hid (idxStr p a n c xs g cap w h eg hp)
  clear hp eg h
  go_enter Tryz.func58, Tryz.ntmps58
  go_wp2_with (fail)
  refine H.out.mono ?_
  rintro e w1 ⟨rfl, hb⟩
  go_wp2_with (fail)
  go_ret
  exact ⟨ret_b (idxF_any p xs), hb⟩
/-- a line -/
theorem checkLine63 (x : Int) (w : World) : Calls Tryz.prog 63 #[.int .i64 x] w fun e w' => e = .returned (.bool (lineOk x)) ∧ w = w' := by
  have HE := Lib.hid (show lineOk x = (decide (1 ≤ x) && decide (x ≤ 4096)) from rfl)
  rw [HE.out]
  by_cases h1 : 1 ≤ x
  · have d1 : decide (1 ≤ x) = true := by rw [decide_eq_true_eq]; exact h1
    by_cases h2 : x ≤ 4096
    · have d2 : decide (x ≤ 4096) = true := by rw [decide_eq_true_eq]; exact h2
      clear h1 h2
      go_enter Tryz.func63, Tryz.ntmps63
      go_wp2_with (fail)
      go_ret
      exact ⟨by simp [d1, d2], rfl⟩
    · have d2 : decide (x ≤ 4096) = false := by rw [decide_eq_false_iff_not]; exact h2
      clear h1 h2
      go_enter Tryz.func63, Tryz.ntmps63
      go_wp2_with (fail)
      go_ret
      exact ⟨by simp [d1, d2], rfl⟩
  · have d1 : decide (1 ≤ x) = false := by rw [decide_eq_false_iff_not]; exact h1
    clear h1
    go_enter Tryz.func63, Tryz.ntmps63
    go_wp2_with (fail)
    go_ret
    exact ⟨by simp [d1], rfl⟩
theorem words62 (x : Int) (w : World) : Calls Tryz.prog 62 #[.int .i64 x] w fun e w' => e = .returned (.bool (!lineOk x)) ∧ ∃ q, w' = w.drewN q := by
  have HC := Lib.hid (checkLine63 x w)
  generalize lineOk x = v at *
  go_enter Tryz.func62, Tryz.ntmps62
  go_wp2_with (fail)
  refine HC.out.mono ?_
  rintro e w' ⟨rfl, rfl⟩
  go_wp2_with (fail)
  go_ret
  exact ⟨rfl, 0, rfl⟩
theorem badLines (a : Option Addr) (n c : Nat) (xs : List Int) (w : World) (h : Ints w a n xs) :
    Calls Tryz.prog 61 #[.slice a n c, .func (.func 62) #[] #[]] w fun e w' => e = .returned (.bool (xs.any fun x => !lineOk x)) ∧ Below w.heap.size w w' := by
  refine (contInt (fun x => !lineOk x) a n c xs 62 #[] w h (enters_of Tryz.func62 (by kernel_rfl) rfl) (fun q x _ => words62 x _)).mono ?_
  rintro e w' ⟨he, q, rfl⟩
  exact ⟨he, bdrewN w q⟩
end Go.Proofs.YtngdmpkoedpgdaaGreatDoor
