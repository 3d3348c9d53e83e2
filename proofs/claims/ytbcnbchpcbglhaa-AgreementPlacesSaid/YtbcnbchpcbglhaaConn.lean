/-
  Plain laws on connected sources: a search that grows a group, labels that sink to the least member, and the list of the groups.
-/
import Derived.Test.YtbcnbchpcbglhaaPlain2
namespace Go.Ap
open Go Go.RowKit

/-- one source can be reached from another -/
inductive Conn (adj : Nat → Nat → Bool) (n : Nat) : Nat → Nat → Prop
  | refl {i : Nat} (h : i < n) : Conn adj n i i
  | step {i j k : Nat} (h : Conn adj n i j) (hk : k < n) (ha : adj j k = true) : Conn adj n i k
section
variable {adj : Nat → Nat → Bool} {n i j k : Nat}
theorem Conn.left (h : Conn adj n i j) : i < n := by induction h <;> assumption
theorem Conn.right (h : Conn adj n i j) : j < n := by cases h <;> assumption
theorem Conn.trans (h : Conn adj n i j) (h' : Conn adj n j k) : Conn adj n i k := by
  induction h' with
  | refl => exact h
  | step _ hk ha ih => exact .step ih hk ha
theorem Conn.one (hi : i < n) (hj : j < n) (ha : adj i j = true) : Conn adj n i j := .step (.refl hi) hj ha
theorem Conn.symm (hs : ∀ a b, adj a b = adj b a) (h : Conn adj n i j) : Conn adj n j i := by
  induction h with
  | refl h => exact .refl h
  | step h hk ha ih => exact (Conn.one hk h.right (by rw [hs]; exact ha)).trans ih
end

open Classical in
noncomputable def connB (adj : Nat → Nat → Bool) (n i j : Nat) : Bool := decide (Conn adj n i j)
theorem connB_iff {adj : Nat → Nat → Bool} {n i j : Nat} : connB adj n i j = true ↔ Conn adj n i j := by simp [connB]

/-- no smaller one is joined with i -/
def isL (r : Nat → Nat → Bool) (i : Nat) : Bool := (List.range i).all fun j => !r j i
/-- the groups whose least member is below k -/
def cluU (r : Nat → Nat → Bool) (n k : Nat) : List (List Int) := ((List.range k).filter (isL r)).map fun i => memb (r i) n
section
variable {r : Nat → Nat → Bool} {n k : Nat}
theorem cluU_yes (h : isL r k = true) : cluU r n (k + 1) = cluU r n k ++ [memb (r k) n] := by simp [cluU, List.range_succ, h]
theorem cluU_no (h : isL r k = false) : cluU r n (k + 1) = cluU r n k := by simp [cluU, List.range_succ, h]
theorem cluU_len (r : Nat → Nat → Bool) (n k : Nat) : (cluU r n k).length ≤ k := by
  unfold cluU; rw [List.length_map]; exact Nat.le_trans (List.length_filter_le _ _) (by simp)
theorem cluU_row : ∀ l ∈ cluU r n k, l.length ≤ n := by
  intro l hl
  obtain ⟨i, _, rfl⟩ := List.mem_map.1 hl
  exact memb_len _ _
theorem cluU_congr {q : Nat → Nat → Bool} (hk : k ≤ n) (h : ∀ i j, i < n → j < n → r i j = q i j) : cluU r n k = cluU q n k := by
  unfold cluU
  have e1 : (List.range k).filter (isL r) = (List.range k).filter (isL q) := List.filter_congr fun i hi => by
    have hi' := List.mem_range.1 hi
    unfold isL
    rw [Bool.eq_iff_iff, List.all_eq_true, List.all_eq_true]
    constructor <;> intro H j hj <;> have hj' := List.mem_range.1 hj <;> have := H j hj
    · rw [← h j i (by omega) (by omega)]; exact this
    · rw [h j i (by omega) (by omega)]; exact this
  rw [e1]
  apply List.map_congr_left
  intro i hi
  have hi' := List.mem_range.1 (List.mem_filter.1 hi).1
  exact memb_congr fun j hj => h i j (by omega) hj
end

def tk (T : List Bool) (j : Nat) : Bool := T.getD j false
theorem tk_set {T : List Bool} {k j : Nat} (hk : k < T.length) : tk (T.set k true) j = (decide (j = k) || tk T j) := by
  unfold tk
  rw [List.getD_eq_getElem?_getD, List.getD_eq_getElem?_getD, List.getElem?_set]
  by_cases h : k = j
  · subst h; simp [hk]
  · rw [if_neg h]; simp [Ne.symm h]

theorem nodup_len : ∀ (n : Nat) (g : List Int), g.Nodup → (∀ x ∈ g, ∃ j : Nat, x = j ∧ j < n) → g.length ≤ n := by
  intro n g hn hx
  have h1 : (memb (fun k => hasI g k) n).Perm g := by
    refine (List.perm_ext_iff_of_nodup ((memb_pair _ _).imp (fun h => by omega)) hn).2 fun k => ?_
    rw [memb_mem]
    constructor
    · rintro ⟨j, rfl, _, h⟩; exact List.contains_iff_mem.1 h
    · intro hk
      obtain ⟨j, rfl, hj⟩ := hx k hk
      exact ⟨j, rfl, hj, List.contains_iff_mem.2 hk⟩
  rw [← h1.length_eq]
  exact memb_len _ _

/-- where the search stands: T is what is taken, g the group, the members before 'at' are done, and 'at' itself as far as k -/
structure Bfs (adj : Nat → Nat → Bool) (n i : Nat) (prev : Nat → Bool) (T : List Bool) (g : List Int) (p k : Nat) : Prop where
  len : T.length = n
  tak : ∀ j, j < n → (tk T j = true ↔ prev j = true ∨ (j : Int) ∈ g)
  conn : ∀ x ∈ g, ∃ j : Nat, x = j ∧ j < n ∧ Conn adj n i j ∧ prev j = false
  nodup : g.Nodup
  start : (i : Int) ∈ g
  closed : ∀ q, q < p → q < g.length → ∀ j, j < n → adj (nth g q).toNat j = true → tk T j = true
  cur : p < g.length → ∀ j, j < k → j < n → adj (nth g p).toNat j = true → tk T j = true
section
variable {adj : Nat → Nat → Bool} {n i p k : Nat} {prev : Nat → Bool} {T : List Bool} {g : List Int}
theorem Bfs.bound (h : Bfs adj n i prev T g p k) : g.length ≤ n := nodup_len n g h.nodup fun x hx => by
  obtain ⟨j, e, hj, _⟩ := h.conn x hx; exact ⟨j, e, hj⟩
theorem Bfs.at (h : Bfs adj n i prev T g p k) (hp : p < g.length) : ∃ j : Nat, nth g p = j ∧ j < n ∧ Conn adj n i j ∧ (j : Int) ∈ g := by
  obtain ⟨j, e, hj, hc, _⟩ := h.conn _ (nth_mem hp)
  exact ⟨j, e, hj, hc, by rw [← e]; exact nth_mem hp⟩
theorem Bfs.skip (h : Bfs adj n i prev T g p k) (hs : tk T k = true ∨ adj (nth g p).toNat k = false) : Bfs adj n i prev T g p (k + 1) :=
  ⟨h.len, h.tak, h.conn, h.nodup, h.start, h.closed, fun hp j hj hn ha => by
    by_cases e : j = k
    · subst e
      rcases hs with hs | hs
      · exact hs
      · rw [hs] at ha; cases ha
    · exact h.cur hp j (by omega) hn ha⟩
theorem Bfs.add (h : Bfs adj n i prev T g p k) (hp : p < g.length) (hk : k < n) (h0 : tk T k = false) (ha : adj (nth g p).toNat k = true) : Bfs adj n i prev (T.set k true) (g ++ [(k : Int)]) p (k + 1) := by
  have hkl : k < T.length := by rw [h.len]; exact hk
  have hnot : ¬ (prev k = true ∨ (k : Int) ∈ g) := fun h' => by rw [(h.tak k hk).2 h'] at h0; cases h0
  obtain ⟨j0, e0, hj0, hc0, _⟩ := h.at hp
  have keep : ∀ j, tk T j = true → tk (T.set k true) j = true := fun j hj => by rw [tk_set hkl, hj, Bool.or_true]
  have hn1 : ∀ q, q < g.length → nth (g ++ [(k : Int)]) q = nth g q := fun q hq => by
    rw [nth_eq hq, nth_eq (by rw [List.length_append]; omega), List.getElem_append_left hq]
  refine ⟨by rw [List.length_set]; exact h.len, fun j hj => ?_, fun x hx => ?_, ?_, List.mem_append_left _ h.start, fun q hq hql j hj ha' => ?_, fun hp' j hj hn ha' => ?_⟩
  · rw [tk_set hkl, Bool.or_eq_true, decide_eq_true_eq, h.tak j hj, List.mem_append, List.mem_singleton]
    constructor
    · rintro (rfl | h1 | h1)
      · exact .inr (.inr rfl)
      · exact .inl h1
      · exact .inr (.inl h1)
    · rintro (h1 | h1 | h1)
      · exact .inr (.inl h1)
      · exact .inr (.inr h1)
      · exact .inl (by omega)
  · rcases List.mem_append.1 hx with h1 | h1
    · exact h.conn x h1
    · rw [List.mem_singleton] at h1
      refine ⟨k, h1, hk, hc0.step hk (by rw [← ha, e0]; rfl), ?_⟩
      cases hpk : prev k
      · rfl
      · exact absurd (.inl hpk) hnot
  · rw [List.nodup_append]
    refine ⟨h.nodup, by simp, fun a h1 b h2 e => ?_⟩
    rw [List.mem_singleton] at h2
    subst e
    subst h2
    exact hnot (.inr h1)
  · have hq' : q < g.length := by omega
    rw [hn1 q hq'] at ha'
    exact keep j (h.closed q hq hq' j hj ha')
  · rw [hn1 p hp] at ha'
    by_cases e : j = k
    · subst e; rw [tk_set hkl]; simp
    · exact keep j (h.cur hp j (by omega) hn ha')
theorem Bfs.next (h : Bfs adj n i prev T g p n) : Bfs adj n i prev T g (p + 1) 0 :=
  ⟨h.len, h.tak, h.conn, h.nodup, h.start, fun q hq hql j hj ha => by
    by_cases e : q = p
    · subst e; exact h.cur hql j hj hj ha
    · exact h.closed q (by omega) hql j hj ha, fun _ j hj => by omega⟩
theorem Bfs.first {T0 : List Bool} (hl : T0.length = n) (hi : i < n) (ht : ∀ j, j < n → tk T0 j = prev j) (hp : prev i = false) : Bfs adj n i prev (T0.set i true) [(i : Int)] 0 0 := by
  have hil : i < T0.length := by rw [hl]; exact hi
  refine ⟨by rw [List.length_set]; exact hl, fun j hj => ?_, fun x hx => ?_, by simp, by simp, fun q hq => by omega, fun _ j hj => by omega⟩
  · rw [tk_set hil, Bool.or_eq_true, decide_eq_true_eq, ht j hj, List.mem_singleton]
    constructor
    · rintro (rfl | h)
      · exact .inr rfl
      · exact .inl h
    · rintro (h | h)
      · exact .inr h
      · exact .inl (by omega)
  · rw [List.mem_singleton] at hx
    exact ⟨i, hx, hi, .refl hi, hp⟩
/-- behind the search the group is all that can be reached -/
theorem Bfs.all (hs : ∀ a b, adj a b = adj b a) (hpc : ∀ a b, b < n → prev a = true → adj a b = true → prev b = true) (h : Bfs adj n i prev T g p k) (hp : g.length ≤ p) {j : Nat} (hc : Conn adj n i j) : (j : Int) ∈ g := by
  induction hc with
  | refl => exact h.start
  | step hc hk ha ih =>
    rename_i j k'
    obtain ⟨q, hq, hqe⟩ := List.getElem_of_mem ih
    have hn : nth g q = (j : Int) := by rw [nth_eq hq]; exact hqe
    have ht := h.closed q (by omega) hq k' hk (by rw [hn]; exact ha)
    rcases (h.tak k' hk).1 ht with h1 | h1
    · obtain ⟨j', e, _, _, hpf⟩ := h.conn _ ih
      obtain rfl : j = j' := by omega
      have := hpc k' j hc.right h1 (by rw [hs]; exact ha)
      rw [hpf] at this
      cases this
    · exact h1
def sortI (xs : List Int) : List Int := xs.mergeSort fun x y => decide (x ≤ y)
theorem sortI_perm (xs : List Int) : (sortI xs).Perm xs := List.mergeSort_perm _ _
theorem sortI_pair (xs : List Int) : (sortI xs).Pairwise (· ≤ ·) := by
  have h := List.pairwise_mergeSort (le := fun (x y : Int) => decide (x ≤ y)) (fun a b c => by simp; omega) (fun a b => by simp; omega) xs
  exact h.imp (fun h => by simpa using h)
theorem sortI_asc {xs : List Int} (h : xs.Nodup) : (sortI xs).Pairwise (· < ·) := by
  have h1 : (sortI xs).Nodup := (sortI_perm xs).nodup_iff.2 h
  exact ((sortI_pair xs).and h1).imp (fun h => by omega)
theorem Bfs.sorted (hs : ∀ a b, adj a b = adj b a) (hpc : ∀ a b, b < n → prev a = true → adj a b = true → prev b = true) (h : Bfs adj n i prev T g p k) (hp : g.length ≤ p) : sortI g = memb (connB adj n i) n :=
  asc_ext (sortI_asc h.nodup) (memb_pair _ _) fun x => by
    rw [(sortI_perm g).mem_iff, memb_mem]
    constructor
    · intro hx
      obtain ⟨j, e, hj, hc, _⟩ := h.conn x hx
      exact ⟨j, e, hj, connB_iff.2 hc⟩
    · rintro ⟨j, rfl, _, hc⟩
      exact h.all hs hpc hp (connB_iff.1 hc)
/-- those that can be reached from one below i -/
noncomputable def prevB (adj : Nat → Nat → Bool) (n i j : Nat) : Bool := (List.range i).any fun a => connB adj n a j
theorem prevB_closed (a b : Nat) (hb : b < n) (h : prevB adj n i a = true) (ha : adj a b = true) : prevB adj n i b = true := by
  obtain ⟨c, hc, hca⟩ := List.any_eq_true.1 h
  exact List.any_eq_true.2 ⟨c, hc, connB_iff.2 ((connB_iff.1 hca).step hb ha)⟩
theorem isL_prev : isL (connB adj n) i = !prevB adj n i i := by
  unfold isL prevB
  rw [List.not_any_eq_all_not]
theorem prevB_succ {j : Nat} : prevB adj n (i + 1) j = (prevB adj n i j || connB adj n i j) := by
  unfold prevB
  rw [List.range_succ, List.any_append]; simp
theorem Bfs.taken (hs : ∀ a b, adj a b = adj b a) (h : Bfs adj n i (prevB adj n i) T g p k) (hp : g.length ≤ p) : ∀ j, j < n → tk T j = prevB adj n (i + 1) j := by
  intro j hj
  rw [Bool.eq_iff_iff, h.tak j hj, prevB_succ, Bool.or_eq_true]
  constructor
  · rintro (h1 | h1)
    · exact .inl h1
    · obtain ⟨j', e, _, hc, _⟩ := h.conn _ h1
      obtain rfl : j = j' := by omega
      exact .inr (connB_iff.2 hc)
  · rintro (h1 | h1)
    · exact .inl h1
    · exact .inr (h.all hs (fun a b => prevB_closed a b) hp (connB_iff.1 h1))
theorem prevB_skip (hi : prevB adj n i i = true) {j : Nat} : prevB adj n (i + 1) j = prevB adj n i j := by
  rw [prevB_succ]
  cases hc : connB adj n i j
  · simp
  · obtain ⟨c, hc1, hca⟩ := List.any_eq_true.1 hi
    have : prevB adj n i j = true := List.any_eq_true.2 ⟨c, hc1, connB_iff.2 ((connB_iff.1 hca).trans (connB_iff.1 hc))⟩
    rw [this]; rfl
end

/-- labels: each is a member of the group, and not above -/
structure Lab (adj : Nat → Nat → Bool) (n : Nat) (L : List Int) : Prop where
  len : L.length = n
  conn : ∀ i, i < n → ∃ j : Nat, nth L i = j ∧ j ≤ i ∧ Conn adj n i j
def Right (adj : Nat → Nat → Bool) (n : Nat) (L : List Int) (i : Nat) : Prop := ∀ j : Nat, Conn adj n i j → nth L i ≤ (j : Int)
open Classical in
noncomputable def wrongB (adj : Nat → Nat → Bool) (n : Nat) (L : List Int) (i : Nat) : Bool := decide (¬ Right adj n L i)
theorem wrongB_iff {adj : Nat → Nat → Bool} {n : Nat} {L : List Int} {i : Nat} : wrongB adj n L i = true ↔ ¬ Right adj n L i := by simp [wrongB]
noncomputable def wrongs (adj : Nat → Nat → Bool) (n : Nat) (L : List Int) : List Nat := (List.range n).filter (wrongB adj n L)
theorem wrongs_mem {adj : Nat → Nat → Bool} {n : Nat} {L : List Int} {i : Nat} : i ∈ wrongs adj n L ↔ i < n ∧ ¬ Right adj n L i := by
  rw [wrongs, List.mem_filter, List.mem_range, wrongB_iff]
/-- where a round stands -/
structure Rnd (adj : Nat → Nat → Bool) (n : Nat) (L0 L : List Int) (i k : Nat) : Prop where
  lab : Lab adj n L
  le : ∀ j, j < n → nth L j ≤ nth L0 j
  done : ∀ a b, a < n → b < n → adj a b = true → (a < i ∨ (a = i ∧ b < k)) → nth L a ≤ nth L0 b
section
variable {adj : Nat → Nat → Bool} {n i k : Nat} {L L0 L1 : List Int}
theorem nth_setL {xs : List Int} {k j : Nat} {v : Int} (hk : k < xs.length) : nth (xs.set k v) j = if j = k then v else nth xs j := by
  unfold nth
  rw [List.getD_eq_getElem?_getD, List.getD_eq_getElem?_getD, List.getElem?_set]
  by_cases h : k = j
  · subst h; simp [hk]
  · rw [if_neg h, if_neg (Ne.symm h)]
theorem Rnd.start (h : Lab adj n L) : Rnd adj n L L 0 0 := ⟨h, fun _ _ => Int.le_refl _, fun a b _ _ _ h => by omega⟩
theorem Rnd.row (h : Rnd adj n L0 L i n) : Rnd adj n L0 L (i + 1) 0 := ⟨h.lab, h.le, fun a b ha hb hab h' => h.done a b ha hb hab (by omega)⟩
theorem Rnd.skip (h : Rnd adj n L0 L i k) (ha : adj i k = false) : Rnd adj n L0 L i (k + 1) :=
  ⟨h.lab, h.le, fun a b hna hnb hab h' => by
    by_cases e : a = i ∧ b = k
    · rw [e.1, e.2, ha] at hab; cases hab
    · exact h.done a b hna hnb hab (by omega)⟩
theorem Rnd.sink (h : Rnd adj n L0 L i k) (hi : i < n) (hk : k < n) (ha : adj i k = true) : Rnd adj n L0 (L.set i (Min.min (nth L i) (nth L k))) i (k + 1) := by
  have hil : i < L.length := by rw [h.lab.len]; exact hi
  have hle : ∀ j, j < n → nth (L.set i (Min.min (nth L i) (nth L k))) j ≤ nth L j := fun j _ => by
    rw [nth_setL hil]
    split
    · rename_i e; rw [e]; exact Int.min_le_left _ _
    · exact Int.le_refl _
  obtain ⟨a, ea, ha1, ha2⟩ := h.lab.conn i hi
  obtain ⟨b, eb, hb1, hb2⟩ := h.lab.conn k hk
  refine ⟨⟨by rw [List.length_set]; exact h.lab.len, fun j hj => ?_⟩, fun j hj => Int.le_trans (hle j hj) (h.le j hj), fun a' b' hna hnb hab h' => ?_⟩
  · rw [nth_setL hil]
    split
    · rename_i e
      subst e
      rcases Int.le_total (nth L j) (nth L k) with hm | hm
      · rw [Int.min_eq_left hm]; exact ⟨a, ea, ha1, ha2⟩
      · rw [Int.min_eq_right hm]
        exact ⟨b, eb, by omega, (Conn.one hj hk ha).trans hb2⟩
    · exact h.lab.conn j hj
  · by_cases e : a' = i ∧ b' = k
    · obtain ⟨rfl, rfl⟩ := e
      rw [nth_setL hil, if_pos rfl]
      exact Int.le_trans (Int.min_le_right _ _) (h.le b' hnb)
    · exact Int.le_trans (hle a' hna) (h.done a' b' hna hnb hab (by omega))

theorem least_mem {adj : Nat → Nat → Bool} {n i : Nat} : ∀ d j, j ≤ d → Conn adj n i j → ∃ m, Conn adj n i m ∧ ∀ j', Conn adj n i j' → m ≤ j'
  | 0, j, hd, hc => ⟨j, hc, fun j' _ => by omega⟩
  | d + 1, j, hd, hc => by
    by_cases h : ∃ j', Conn adj n i j' ∧ j' < j
    · obtain ⟨j', hc', hlt⟩ := h
      exact least_mem d j' (by omega) hc'
    · exact ⟨j, hc, fun j' hc' => by
        rcases Nat.lt_or_ge j' j with h' | h'
        · exact absurd ⟨j', hc', h'⟩ h
        · exact h'⟩
theorem frontier (hw : ¬ Right adj n L i) {j : Nat} (hc : Conn adj n i j) (hr : Right adj n L j) : ∃ u v, Conn adj n i u ∧ v < n ∧ adj u v = true ∧ ¬ Right adj n L u ∧ Right adj n L v := by
  induction hc with
  | refl => exact absurd hr hw
  | step hc hk ha ih =>
    rename_i j k'
    by_cases h : Right adj n L j
    · exact ih h
    · exact ⟨j, k', hc, hk, ha, h, hr⟩
theorem wrongs_lt (hs : ∀ a b, adj a b = adj b a) (h0 : Lab adj n L0) (h : Rnd adj n L0 L n 0) : (wrongs adj n L).length < (wrongs adj n L0).length ∨ wrongs adj n L = [] := by
  have keep : ∀ i, i < n → Right adj n L0 i → Right adj n L i := fun i hi hr j hc => Int.le_trans (h.le i hi) (hr j hc)
  have hsub : (wrongs adj n L).Sublist (wrongs adj n L0) := by
    unfold wrongs
    have e : (List.range n).filter (wrongB adj n L) = ((List.range n).filter (wrongB adj n L0)).filter (wrongB adj n L) := by
      rw [List.filter_filter]
      apply List.filter_congr
      intro i hi
      rw [Bool.eq_iff_iff]
      simp only [Bool.and_eq_true, wrongB_iff]
      exact ⟨fun h1 => ⟨h1, fun h2 => h1 (keep i (List.mem_range.1 hi) h2)⟩, fun h1 => h1.1⟩
    rw [e]
    exact List.filter_sublist
  by_cases hw : wrongs adj n L = []
  · exact .inr hw
  · refine .inl ?_
    rcases Nat.lt_or_ge (wrongs adj n L).length (wrongs adj n L0).length with hlt | hge
    · exact hlt
    · exfalso
      have heq := hsub.eq_of_length (Nat.le_antisymm hsub.length_le hge)
      obtain ⟨i, hi⟩ := List.exists_mem_of_ne_nil _ hw
      have hi0 : i ∈ wrongs adj n L0 := hsub.subset hi
      have hi1 : i < n ∧ ¬ Right adj n L0 i := wrongs_mem.1 hi0
      obtain ⟨m, hm, hmin⟩ := least_mem i i (Nat.le_refl _) (Conn.refl (adj := adj) hi1.1)
      have hmr : Right adj n L0 m := fun j hc => by
        obtain ⟨l, e, hl, _⟩ := h0.conn m hm.right
        have := hmin j (hm.trans hc)
        omega
      obtain ⟨u, v, hu, hv, ha, hwu, hrv⟩ := frontier hi1.2 hm hmr
      have hru : Right adj n L u := fun j hc => by
        have h1 := h.done u v hu.right hv ha (.inl hu.right)
        have h2 := hrv j ((Conn.one hv hu.right (by rw [hs]; exact ha)).trans hc)
        omega
      have hu0 : u ∈ wrongs adj n L0 := wrongs_mem.2 ⟨hu.right, hwu⟩
      rw [← heq] at hu0
      exact (wrongs_mem.1 hu0).2 hru
theorem wrongs_le (L : List Int) : (wrongs adj n L).length ≤ n := by
  unfold wrongs; exact Nat.le_trans (List.length_filter_le _ _) (by simp)
theorem rights (h : wrongs adj n L = []) : ∀ i, i < n → Right adj n L i := by
  intro i hi
  refine Classical.byContradiction fun hn => ?_
  have : i ∈ wrongs adj n L := wrongs_mem.2 ⟨hi, hn⟩
  rw [h] at this
  cases this
/-- a source is its own label just if it is the least member -/
theorem Lab.self (hs : ∀ a b, adj a b = adj b a) (h : Lab adj n L) (hr : ∀ i, i < n → Right adj n L i) (hi : i < n) : (nth L i == (i : Int)) = isL (connB adj n) i := by
  obtain ⟨j, e, hj, hc⟩ := h.conn i hi
  rw [Bool.eq_iff_iff, beq_iff_eq]
  unfold isL
  rw [List.all_eq_true]
  constructor
  · intro he a ha
    have ha' := List.mem_range.1 ha
    cases hca : connB adj n a i
    · rfl
    · have := hr i hi a ((connB_iff.1 hca).symm hs)
      omega
  · intro H
    rcases Nat.lt_or_ge j i with hlt | hge
    · have := H j (List.mem_range.2 hlt)
      rw [connB_iff.2 (hc.symm hs)] at this
      cases this
    · omega
theorem Lab.member (hs : ∀ a b, adj a b = adj b a) (h : Lab adj n L) (hr : ∀ i, i < n → Right adj n L i) (hi : i < n) (hl : isL (connB adj n) i = true) (hk : k < n) : (nth L k == (i : Int)) = connB adj n i k := by
  obtain ⟨j, e, hj, hc⟩ := h.conn k hk
  rw [Bool.eq_iff_iff, beq_iff_eq, connB_iff]
  constructor
  · intro he
    obtain rfl : j = i := by omega
    exact hc.symm hs
  · intro hik
    have h1 := hr k hk i (hik.symm hs)
    have h2 : Conn adj n j i := (hc.symm hs).trans (hik.symm hs)
    rcases Nat.lt_or_ge j i with hlt | hge
    · have := List.all_eq_true.1 hl j (List.mem_range.2 hlt)
      rw [connB_iff.2 h2] at this
      cases this
    · omega
end
end Go.Ap
