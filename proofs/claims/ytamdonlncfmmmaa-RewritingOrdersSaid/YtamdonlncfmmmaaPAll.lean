/-
  What any order of steps leads to, in plain words.
-/
import Derived.Test.YtamdonlncfmmmaaOwnS
namespace Go.Ap

def addN (L : List Str) (y : Str) : List Str := if y ∈ L then L else L ++ [y]
/-- what has been reached, and these -/
def expandL (L : List Str) (ys : List Str) : List Str := ys.foldl addN L
section
variable {L ys : List Str} {y : Str}
theorem expandL_nil : expandL L [] = L := rfl
theorem expandL_snoc : expandL L (ys ++ [y]) = addN (expandL L ys) y := by simp [expandL, List.foldl_append]
theorem addN_pre : L <+: addN L y := by
  unfold addN
  split
  · exact List.prefix_refl _
  · exact List.prefix_append _ _
theorem expandL_pre : ∀ {ys L : List Str}, L <+: expandL L ys
  | [], _ => List.prefix_refl _
  | y :: ys, L => addN_pre.trans (expandL_pre (ys := ys) (L := addN L y))
theorem expandL_mono {ps : List Str} (h : ps <+: ys) : expandL L ps <+: expandL L ys := by
  obtain ⟨t, rfl⟩ := h
  rw [expandL, expandL, List.foldl_append]
  exact expandL_pre
theorem addN_nodup (h : L.Nodup) : (addN L y).Nodup := by
  unfold addN
  split
  · exact h
  · rename_i hy
    rw [List.nodup_append]
    exact ⟨h, by simp, fun a ha b hb => by simp at hb; subst hb; exact fun e => hy (e ▸ ha)⟩
theorem expandL_nodup : ∀ {ys L : List Str}, L.Nodup → (expandL L ys).Nodup
  | [], _, h => h
  | _ :: ys, _, h => expandL_nodup (ys := ys) (addN_nodup h)
theorem mem_addN {z : Str} : z ∈ addN L y ↔ z ∈ L ∨ z = y := by
  unfold addN
  split
  · rename_i h
    constructor
    · exact .inl
    · rintro (h | rfl)
      · exact h
      · assumption
  · simp
theorem mem_expandL {z : Str} : ∀ {ys L : List Str}, z ∈ expandL L ys ↔ z ∈ L ∨ z ∈ ys
  | [], L => by simp [expandL]
  | y :: ys, L => by
    show z ∈ expandL (addN L y) ys ↔ _
    rw [mem_expandL, mem_addN, List.mem_cons]
    constructor
    · rintro ((h | h) | h)
      · exact .inl h
      · exact .inr (.inl h)
      · exact .inr (.inr h)
    · rintro (h | h | h)
      · exact .inl (.inl h)
      · exact .inl (.inr h)
      · exact .inr h
end

/-- the normal strings that are reached, breadth first: what has been reached, how much of it has been looked at -/
def bfsF (rs : List Rule) : Nat → Nat → List Str → List Str → Option (List Str)
  | 0, _, _, _ => none
  | f + 1, i, L, N => match L[i]? with
    | none => some N
    | some s => if 4096 < (expandL L (resL rs s)).length then none else bfsF rs f (i + 1) (expandL L (resL rs s)) (if resL rs s = [] then N ++ [s] else N)
def normalsL (rs : List Rule) (s : Str) : Option (List Str) := bfsF rs 4097 0 [s] []
def sortS (l : List Str) : List Str := l.mergeSort fun x y => decide (x ≤ y)
def allE (rs : List Rule) (s : Str) : Int × List Str := match normalsL rs s with
  | some N => (0, sortS N)
  | none => (4, [])
/-- where the search stands -/
structure AtB (rs : List Rule) (s : Str) (i : Nat) (L N : List Str) : Prop where
  go : bfsF rs (4097 - i) i L N = normalsL rs s
  nd : L.Nodup
  le : L.length ≤ 4096
  il : i ≤ L.length
  nn : N.Nodup
  nl : N.length ≤ i
  sub : ∀ x ∈ N, x ∈ L.take i
  len : ∀ x ∈ L, x.length ≤ s.length
section
variable {rs : List Rule} {s x : Str} {i : Nat} {L N : List Str}
theorem AtB.start : AtB rs s 0 [s] [] := ⟨rfl, by simp, by simp, by simp, by simp, by simp, by simp, fun x hx => by simp at hx; rw [hx]; exact Nat.le_refl _⟩
theorem AtB.step (h : AtB rs s i L N) (hx : L[i]? = some x) : bfsF rs (4097 - i) i L N = if 4096 < (expandL L (resL rs x)).length then none else bfsF rs (4097 - (i + 1)) (i + 1) (expandL L (resL rs x)) (if resL rs x = [] then N ++ [x] else N) := by
  have hi := (List.getElem?_eq_some_iff.1 hx).1
  have := h.le
  obtain ⟨f, hf⟩ : ∃ f, 4097 - i = f + 1 := ⟨4097 - i - 1, by omega⟩
  rw [hf, bfsF, hx, show 4097 - (i + 1) = f by omega]
theorem AtB.over (h : AtB rs s i L N) (hx : L[i]? = some x) {ps : List Str} (hp : ps <+: resL rs x) (hl : 4096 < (expandL L ps).length) : allE rs s = (4, []) := by
  have h1 := (expandL_mono (L := L) hp).length_le
  rw [allE, ← h.go, h.step hx, if_pos (by omega)]
theorem AtB.next (hv : Val rs) (h : AtB rs s i L N) (hx : L[i]? = some x) (hl : (expandL L (resL rs x)).length ≤ 4096) : AtB rs s (i + 1) (expandL L (resL rs x)) (if resL rs x = [] then N ++ [x] else N) := by
  have hi := (List.getElem?_eq_some_iff.1 hx).1
  have hpre := expandL_pre (L := L) (ys := resL rs x)
  have hlen := hpre.length_le
  obtain ⟨t, ht⟩ := hpre
  have htake : (expandL L (resL rs x)).take i = L.take i := by rw [← ht, List.take_append_of_le_length (by omega)]
  have htake1 : (expandL L (resL rs x)).take (i + 1) = L.take i ++ [x] := by rw [← ht, List.take_append_of_le_length (by omega), take_succ_of hx]
  have hxm : x ∈ L := List.mem_of_getElem? hx
  have hxt : x ∉ L.take i := fun hm => by
    obtain ⟨j, hj⟩ := List.getElem?_of_mem hm
    rw [List.getElem?_take] at hj
    split at hj
    · rename_i hji
      obtain ⟨hj1, hj2⟩ := List.getElem?_eq_some_iff.1 hj
      obtain ⟨hi1, hi2⟩ := List.getElem?_eq_some_iff.1 hx
      exact (List.pairwise_iff_getElem.1 h.nd) j i hj1 hi1 hji (hj2.trans hi2.symm)
    · cases hj
  refine ⟨?_, expandL_nodup h.nd, hl, by omega, ?_, ?_, ?_, ?_⟩
  · rw [← h.go, h.step hx, if_neg (show ¬ 4096 < (expandL L (resL rs x)).length from by omega)]
  · split
    · rw [List.nodup_append]
      exact ⟨h.nn, by simp, fun a ha b hb => by simp at hb; subst hb; exact fun e => hxt (e ▸ h.sub a ha)⟩
    · exact h.nn
  · have := h.nl
    split
    · simp; omega
    · omega
  · rw [htake1]
    intro y hy
    split at hy
    · rcases List.mem_append.1 hy with hy | hy
      · exact List.mem_append_left _ (h.sub y hy)
      · exact List.mem_append_right _ hy
    · exact List.mem_append_left _ (h.sub y hy)
  · intro y hy
    rcases mem_expandL.1 hy with hy | hy
    · exact h.len y hy
    · exact Nat.le_trans (resL_len hv hy) (h.len x hxm)
theorem AtB.done (h : AtB rs s i L N) (hi : i = L.length) : allE rs s = (0, sortS N) := by
  have := h.le
  obtain ⟨f, hf⟩ : ∃ f, 4097 - i = f + 1 := ⟨4097 - i - 1, by omega⟩
  have hg := h.go
  rw [hf, bfsF, List.getElem?_eq_none (by omega)] at hg
  rw [allE, ← hg]
theorem AtB.nlen (h : AtB rs s i L N) : N.length ≤ 4096 := by
  have := h.le
  have := h.il
  have := h.nl
  omega
end

/-- where a string belongs among the first k of an ascending list -/
def kS (l : List Str) (x : Str) : Nat → Nat
  | 0 => 0
  | k + 1 => if x < l.getD k [] then kS l x k else k + 1
def insS (l : List Str) (x : Str) : List Str := l.take (kS l x l.length) ++ [x] ++ l.drop (kS l x l.length)
theorem kS_le (l : List Str) (x : Str) : ∀ k, kS l x k ≤ k
  | 0 => Nat.le_refl _
  | k + 1 => by
    rw [kS]
    split
    · exact Nat.le_succ_of_le (kS_le l x k)
    · exact Nat.le_refl _
theorem kS_hi {l : List Str} {x : Str} : ∀ {k j : Nat}, kS l x k ≤ j → j < k → x < l.getD j []
  | 0, _, _, h => by omega
  | k + 1, j, h1, h2 => by
    rw [kS] at h1
    split at h1
    · rename_i hx
      rcases Nat.lt_or_ge j k with h | h
      · exact kS_hi h1 h
      · rw [show j = k by omega]; exact hx
    · omega
theorem kS_lo {l : List Str} {x : Str} : ∀ {k : Nat}, 0 < kS l x k → ¬ x < l.getD (kS l x k - 1) []
  | 0, h => by simp [kS] at h
  | k + 1, h => by
    rw [kS] at h ⊢
    split
    · rename_i hx
      rw [if_pos hx] at h
      exact kS_lo h
    · rename_i hx
      rw [Nat.add_sub_cancel]; exact hx
theorem insS_perm (l : List Str) (x : Str) : (insS l x).Perm (x :: l) := by
  have h : l.take (kS l x l.length) ++ l.drop (kS l x l.length) = l := List.take_append_drop _ _
  rw [insS, List.append_assoc, List.singleton_append]
  refine (List.perm_middle).trans ?_
  rw [h]
theorem insS_sorted {l : List Str} {x : Str} (hl : l.Pairwise (· ≤ ·)) : (insS l x).Pairwise (· ≤ ·) := by
  have hk := kS_le l x l.length
  have hg : ∀ {j : Nat} {y : Str}, l[j]? = some y → l.getD j [] = y := fun {j y} h => by rw [List.getD_eq_getElem?_getD, h]; rfl
  have hlo : ∀ y ∈ l.take (kS l x l.length), y ≤ x := by
    intro y hy
    obtain ⟨j, hj⟩ := List.getElem?_of_mem hy
    rw [List.getElem?_take] at hj
    split at hj
    · rename_i hjk
      obtain ⟨m, hm⟩ : ∃ m, kS l x l.length = m + 1 := ⟨kS l x l.length - 1, by omega⟩
      have h1 := kS_lo (l := l) (x := x) (k := l.length) (by omega)
      have hml : m < l.length := by omega
      rw [hm, Nat.add_sub_cancel, hg (List.getElem?_eq_getElem hml)] at h1
      have h2 : l[m] ≤ x := List.not_lt.1 h1
      obtain ⟨hjl, hje⟩ := List.getElem?_eq_some_iff.1 hj
      rcases Nat.lt_or_ge j m with h | h
      · have := (List.pairwise_iff_getElem.1 hl) j m hjl hml h
        rw [hje] at this
        exact List.le_trans this h2
      · have : j = m := by omega
        subst this
        rw [← hje]; exact h2
    · cases hj
  have hhi : ∀ y ∈ l.drop (kS l x l.length), x ≤ y := by
    intro y hy
    obtain ⟨j, hj⟩ := List.getElem?_of_mem hy
    rw [List.getElem?_drop] at hj
    have hjl := (List.getElem?_eq_some_iff.1 hj).1
    have := kS_hi (l := l) (x := x) (k := l.length) (j := kS l x l.length + j) (by omega) hjl
    rw [hg hj] at this
    exact List.le_of_lt this
  rw [insS, List.append_assoc, List.pairwise_append]
  refine ⟨hl.sublist (List.take_sublist _ _), ?_, fun a ha b hb => ?_⟩
  · rw [List.singleton_append, List.pairwise_cons]
    exact ⟨hhi, hl.sublist (List.drop_sublist _ _)⟩
  · rcases List.mem_append.1 hb with hb | hb
    · simp at hb; subst hb; exact hlo a ha
    · exact List.le_trans (hlo a ha) (hhi b hb)
theorem sortS_sorted (l : List Str) : (sortS l).Pairwise (· ≤ ·) := by
  have := List.pairwise_mergeSort (le := fun x y : Str => decide (x ≤ y)) (fun a b c h1 h2 => by simp only [decide_eq_true_eq] at *; exact List.le_trans h1 h2) (fun a b => by simp only [Bool.or_eq_true, decide_eq_true_eq]; exact List.le_total a b) l
  exact this.imp fun h => by simpa using h
theorem sortS_perm (l : List Str) : (sortS l).Perm l := List.mergeSort_perm l _
theorem sortS_eq {l m : List Str} (h : m.Perm l) (hm : m.Pairwise (· ≤ ·)) : m = sortS l :=
  List.Perm.eq_of_pairwise (le := fun a b : Str => a ≤ b) (fun _ _ _ _ h1 h2 => List.le_antisymm h1 h2) hm (sortS_sorted l) (h.trans (sortS_perm l).symm)
theorem insS_sort (N : List Str) (x : Str) : insS (sortS N) x = sortS (N ++ [x]) :=
  sortS_eq ((insS_perm _ _).trans ((List.Perm.cons x (sortS_perm N)).trans (List.perm_append_singleton x N).symm)) (insS_sorted (sortS_sorted N))
def AllE (rs : List Rule) (s : Str) : Int × List Str := if chkW rs s = 0 then allE rs s else (chkW rs s, [])
def nrE (rs : List Rule) (s : Str) : Bool × List Str := match normalsL rs s with
  | some N => (true, sortS N)
  | none => (false, [])
theorem resAt_len (rs : List Rule) (s : Str) (i : Nat) : (resAt rs s i).length ≤ rs.length := List.length_filterMap_le _ _
theorem resL_count (rs : List Rule) (s : Str) : (resL rs s).length ≤ s.length * rs.length := by
  unfold resL
  have : ∀ k, ((List.range k).flatMap (resAt rs s)).length ≤ k * rs.length := fun k => by
    induction k with
    | zero => simp
    | succ k ih =>
      rw [List.range_succ, List.flatMap_append, List.length_append, Nat.add_mul, Nat.one_mul]
      have := resAt_len rs s k
      simp only [List.flatMap_cons, List.flatMap_nil, List.append_nil]
      omega
  exact this _
theorem expandL_len : ∀ {ys L : List Str}, (expandL L ys).length ≤ L.length + ys.length
  | [], L => by simp [expandL]
  | y :: ys, L => by
    show (expandL (addN L y) ys).length ≤ _
    have h1 := expandL_len (ys := ys) (L := addN L y)
    have h2 : (addN L y).length ≤ L.length + 1 := by
      unfold addN
      split
      · omega
      · simp
    simp only [List.length_cons]
    omega
theorem AtB.nr {rs : List Rule} {s : Str} {i : Nat} {L N : List Str} (h : AtB rs s i L N) (hi : i = L.length) : nrE rs s = (true, sortS N) := by
  have := h.le
  obtain ⟨f, hf⟩ : ∃ f, 4097 - i = f + 1 := ⟨4097 - i - 1, by omega⟩
  have hg := h.go
  rw [hf, bfsF, List.getElem?_eq_none (by omega)] at hg
  rw [nrE, ← hg]
theorem AtB.nrOver {rs : List Rule} {s x : Str} {i : Nat} {L N : List Str} (h : AtB rs s i L N) (hx : L[i]? = some x) (hl : 4096 < (expandL L (resL rs x)).length) : nrE rs s = (false, []) := by
  rw [nrE, ← h.go, h.step hx, if_pos hl]
end Go.Ap
