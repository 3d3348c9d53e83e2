import Derived.Test.YtngdmpkoedpgdaaGreatDoorQ4

/-
  The most frequent words, in plain words.
-/

namespace Go.Ap
open Go Go.RowKit
/-- the words of postings, each once, in the order of the first -/
def wordsF (l : List Post) : List Str := l.foldl (fun r p => if p.1.1 ∈ r then r else r ++ [p.1.1]) []
/-- how many lines a word has -/
def cntW (l : List Post) (s : Str) : Nat := ((l.filter fun p => decide (p.1.1 = s)).map fun p => p.2.length).sum
theorem wordsF_snoc (l : List Post) (p : Post) : wordsF (l ++ [p]) = if p.1.1 ∈ wordsF l then wordsF l else wordsF l ++ [p.1.1] := by
  unfold wordsF
  rw [List.foldl_append]
  rfl
theorem snoc_ind {α : Type} {M : List α → Prop} (h0 : M []) (h1 : ∀ l x, M l → M (l ++ [x])) (l : List α) : M l := by
  have key : ∀ n, ∀ l : List α, l.length = n → M l := fun n => by
    induction n with
    | zero => intro l h; rw [List.eq_nil_of_length_eq_zero h]; exact h0
    | succ n ih =>
      intro l h
      have hne : l ≠ [] := fun e => by rw [e] at h; cases h
      rw [← List.dropLast_concat_getLast hne]
      exact h1 _ _ (ih _ (by rw [List.length_dropLast]; omega))
  exact key _ l rfl
theorem wordsF_mem {l : List Post} {s : Str} : s ∈ wordsF l ↔ ∃ p ∈ l, p.1.1 = s := by
  induction l using snoc_ind with
  | h0 => simp [wordsF]
  | h1 l p ih =>
    rw [wordsF_snoc]
    split
    · rename_i h
      rw [ih]
      constructor
      · rintro ⟨q, hq, rfl⟩
        exact ⟨q, List.mem_append.2 (.inl hq), rfl⟩
      · rintro ⟨q, hq, rfl⟩
        rcases List.mem_append.1 hq with hq | hq
        · exact ⟨q, hq, rfl⟩
        · rw [List.mem_singleton] at hq
          subst hq
          exact ih.1 h
    · rw [List.mem_append, ih, List.mem_singleton]
      constructor
      · rintro (⟨q, hq, rfl⟩ | rfl)
        · exact ⟨q, List.mem_append.2 (.inl hq), rfl⟩
        · exact ⟨p, List.mem_append.2 (.inr (List.mem_singleton.2 rfl)), rfl⟩
      · rintro ⟨q, hq, rfl⟩
        rcases List.mem_append.1 hq with hq | hq
        · exact .inl ⟨q, hq, rfl⟩
        · rw [List.mem_singleton] at hq
          subst hq
          exact .inr rfl
theorem wordsF_nodup (l : List Post) : (wordsF l).Nodup := by
  induction l using snoc_ind with
  | h0 => simp [wordsF]
  | h1 l p ih =>
    rw [wordsF_snoc]
    split
    · exact ih
    · rename_i h
      rw [List.nodup_append]
      refine ⟨ih, by simp, fun a ha b hb e => ?_⟩
      rw [List.mem_singleton] at hb
      subst hb
      subst e
      exact h ha
theorem wordsF_len (l : List Post) : (wordsF l).length ≤ l.length := by
  induction l using snoc_ind with
  | h0 => simp [wordsF]
  | h1 l p ih =>
    rw [wordsF_snoc, List.length_append]
    split
    · omega
    · rw [List.length_append]; simp; omega
theorem cntW_snoc (l : List Post) (p : Post) (s : Str) : cntW (l ++ [p]) s = cntW l s + if p.1.1 = s then p.2.length else 0 := by
  unfold cntW
  rw [List.filter_append, List.map_append, List.sum_append]
  by_cases h : p.1.1 = s
  · simp [h]
  · simp [h]
theorem cntW_le (l : List Post) (s : Str) : cntW l s ≤ countL l := by
  induction l using snoc_ind with
  | h0 => simp [cntW]
  | h1 l p ih =>
    rw [cntW_snoc]
    unfold countL at ih ⊢
    rw [List.map_append, List.sum_append]
    simp only [List.map_cons, List.map_nil, List.sum_cons, List.sum_nil]
    split <;> omega
theorem cntW_pos {l : List Post} (hne : ∀ p ∈ l, p.2 ≠ []) {s : Str} : 0 < cntW l s ↔ s ∈ wordsF l := by
  induction l using snoc_ind with
  | h0 => simp [cntW, wordsF]
  | h1 l p ih =>
    have ih := ih fun q hq => hne q (List.mem_append.2 (.inl hq))
    have hp := List.length_pos_iff.2 (hne p (List.mem_append.2 (.inr (List.mem_singleton.2 rfl))))
    rw [cntW_snoc, wordsF_mem]
    rw [wordsF_mem] at ih
    constructor
    · intro h
      by_cases e : p.1.1 = s
      · exact ⟨p, List.mem_append.2 (.inr (List.mem_singleton.2 rfl)), e⟩
      · rw [if_neg e] at h
        obtain ⟨q, hq, he⟩ := ih.1 (by omega)
        exact ⟨q, List.mem_append.2 (.inl hq), he⟩
    · rintro ⟨q, hq, he⟩
      rcases List.mem_append.1 hq with hq | hq
      · have := ih.2 ⟨q, hq, he⟩
        omega
      · rw [List.mem_singleton] at hq
        subst hq
        rw [if_pos he]
        omega
/-- greater numbers stand first -/
def cmpD (a b : Nat) : Int := if b < a then -1 else if a < b then 1 else 0
theorem cmp_d : Cmp cmpD where
  zero {a b} := by
    unfold cmpD
    constructor
    · intro h
      split at h
      · omega
      · split at h <;> omega
    · intro h
      rw [if_neg (by omega), if_neg (by omega)]
  swap {a b} := by
    unfold cmpD
    constructor
    · intro h
      split at h
      · rw [if_neg (by omega), if_pos (by omega)]; omega
      · split at h <;> omega
    · intro h
      split at h
      · omega
      · split at h
        · rw [if_pos (by omega)]; omega
        · omega
  trans {a b d} h1 h2 := by
    unfold cmpD at *
    have e1 : b < a := by
      split at h1
      · assumption
      · split at h1 <;> omega
    have e2 : d < b := by
      split at h2
      · assumption
      · split at h2 <;> omega
    rw [if_pos (by omega)]
    omega
def freqM (f : Str → Nat) (a b : Str) : Int := if cmpD (f a) (f b) = 0 then dictM mkB a b else cmpD (f a) (f b)
theorem cmp_freq (f : Str → Nat) : Cmp (freqM f) := by
  have h := cmp_key (cmp_lex cmp_d (cmp_dict mkB)) (fun a : Str => (f a, a)) (fun a b h => (Prod.mk.inj h).2)
  exact h
theorem freq_neg {f : Str → Nat} {a b : Str} (h : freqM f a b < 0) : f b < f a ∨ f b = f a ∧ dictM mkB a b < 0 := by
  unfold freqM cmpD at h
  by_cases h1 : f b < f a
  · exact .inl h1
  · rw [if_neg h1] at h
    by_cases h2 : f a < f b
    · rw [if_pos h2] at h
      simp at h
    · rw [if_neg h2] at h
      exact .inr ⟨by omega, by simpa using h⟩
/-- the words of postings, the most frequent first -/
structure IsFreq (l : List Post) (r : List Str) : Prop where
  perm : r.Perm (wordsF l)
  asc : r.Pairwise fun a b => freqM (cntW l) a b < 0
def freqS (l : List Post) : List Str := (wordsF l).mergeSort fun a b => decide (freqM (cntW l) a b ≤ 0)
theorem IsFreq.unique {l : List Post} {r r' : List Str} (h : IsFreq l r) (h' : IsFreq l r') : r = r' :=
  List.Perm.eq_of_pairwise (le := fun a b => freqM (cntW l) a b < 0) (fun _ _ _ _ h1 h2 => absurd h2 ((cmp_freq _).asym h1)) h.asc h'.asc (h.perm.trans h'.perm.symm)
theorem freq_is (l : List Post) : IsFreq l (freqS l) := by
  have hc := cmp_freq (cntW l)
  have hp : (freqS l).Perm (wordsF l) := List.mergeSort_perm _ _
  refine ⟨hp, ?_⟩
  have ha := List.pairwise_mergeSort (le := fun a b : Str => decide (freqM (cntW l) a b ≤ 0)) (fun a b c h1 h2 => by
    simp only [decide_eq_true_eq] at *
    by_cases e1 : freqM (cntW l) a b = 0
    · rw [hc.zero.1 e1]; exact h2
    · by_cases e2 : freqM (cntW l) b c = 0
      · rw [← hc.zero.1 e2]; exact h1
      · have := hc.trans (a := a) (b := b) (d := c) (by omega) (by omega)
        omega) (fun a b => by
    simp only [Bool.or_eq_true, decide_eq_true_eq]
    by_cases h : freqM (cntW l) a b ≤ 0
    · exact .inl h
    · have := (hc.swap (a := b) (b := a)).2 (by omega)
      exact .inr (by omega)) (wordsF l)
  have hn : (freqS l).Nodup := (hp.nodup_iff).2 (wordsF_nodup l)
  refine List.Pairwise.imp ?_ (List.Pairwise.and ha hn)
  rintro a b ⟨h1, h2⟩
  simp only [decide_eq_true_eq] at h1
  have : freqM (cntW l) a b ≠ 0 := fun e => h2 (hc.zero.1 e)
  omega
theorem freqS_len (l : List Post) : (freqS l).length = (wordsF l).length := (freq_is l).perm.length_eq
theorem freqS_mem {l : List Post} {s : Str} : s ∈ freqS l ↔ s ∈ wordsF l := (freq_is l).perm.mem_iff
theorem freqS_nodup (l : List Post) : (freqS l).Nodup := ((freq_is l).perm.nodup_iff).2 (wordsF_nodup l)
/-- the next word: what the reference's search finds -/
theorem freq_pick {l : List Post} (hne : ∀ p ∈ l, p.2 ≠ []) {W : List Str} (hW : W.Pairwise fun a b => dictM mkB a b < 0) (hm : ∀ s, s ∈ W ↔ s ∈ wordsF l) {j b : Nat} (hj : j < (freqS l).length) (hb : b < W.length)
    (C : Nat → Nat) (hC : ∀ i (hi : i < W.length), C i = if W[i] ∈ (freqS l).take j then 0 else cntW l W[i]) (h1 : ∀ i, i < W.length → C i ≤ C b) (h2 : ∀ i, i < b → C i < C b) : W[b] = (freqS l)[j] := by
  obtain ⟨s, hs⟩ : ∃ s, (freqS l)[j] = s := ⟨_, rfl⟩
  have hsm : s ∈ freqS l := by rw [← hs]; exact List.getElem_mem hj
  obtain ⟨i, hi, his⟩ := List.getElem_of_mem ((hm s).2 (freqS_mem.1 hsm))
  have hnot : s ∉ (freqS l).take j := fun h => by
    obtain ⟨k, hk, hks⟩ := List.getElem_of_mem h
    rw [List.length_take] at hk
    rw [List.getElem_take] at hks
    have := (List.getElem_inj (freqS_nodup l)).1 (hks.trans hs.symm)
    omega
  have hpos := (cntW_pos hne).2 (freqS_mem.1 hsm)
  have c1 : C i = cntW l s := by rw [hC i hi, his, if_neg hnot]
  have c2 := h1 i hi
  have hbn : W[b] ∉ (freqS l).take j := fun h => by
    have := hC b hb
    rw [if_pos h] at this
    omega
  have c3 : C b = cntW l W[b] := by rw [hC b hb, if_neg hbn]
  rw [hs]
  refine Classical.byContradiction fun hneq => ?_
  have hbm : W[b] ∈ freqS l := freqS_mem.2 ((hm _).1 (List.getElem_mem hb))
  obtain ⟨k, hk, hkb⟩ := List.getElem_of_mem hbm
  have hjk : j < k := by
    have h3 : ¬k < j := fun h => hbn (by rw [← hkb]; exact List.mem_take_iff_getElem.2 ⟨k, by omega, rfl⟩)
    have h4 : k ≠ j := fun e => hneq (by rw [← hkb, ← hs]; congr 1)
    omega
  have h5 := List.pairwise_iff_getElem.1 (freq_is l).asc j k hj hk hjk
  rw [hs, hkb] at h5
  rcases freq_neg h5 with h6 | ⟨h6, h7⟩
  · omega
  · have hib : i < b := by
      have h8 : ¬b < i := fun h => by
        have := List.pairwise_iff_getElem.1 hW b i hb hi h
        rw [his] at this
        exact (cmp_dict mkB).asym this h7
      have h9 : i ≠ b := fun e => by
        subst e
        exact hneq his
      omega
    have := h2 i hib
    omega
end Go.Ap

/-
  Frequent of the reference in plain words.
-/

namespace Go.Ap
open Go Go.RowKit
theorem head_dict {p q : Str × Str} (h : headM mkB p q < 0) : p.1 = q.1 ∨ dictM mkB p.1 q.1 < 0 := by
  unfold headM lexQ at h
  split at h
  · rename_i h1
    exact .inl ((cmp_dict mkB).zero.1 h1)
  · exact .inr h
theorem wordsF_asc {l : List Post} (h : l.Pairwise fun p q => headM mkB p.1 q.1 < 0) : (wordsF l).Pairwise (fun a b => dictM mkB a b < 0) ∧ (wordsF l).getLast? = l.getLast?.map (·.1.1) := by
  induction l using snoc_ind with
  | h0 => simp [wordsF]
  | h1 l p ih =>
    rw [List.pairwise_append] at h
    obtain ⟨h1, _, h3⟩ := h
    obtain ⟨i1, i2⟩ := ih h1
    have hle : ∀ w ∈ wordsF l, w = p.1.1 ∨ dictM mkB w p.1.1 < 0 := fun w hw => by
      obtain ⟨q, hq, rfl⟩ := wordsF_mem.1 hw
      exact head_dict (h3 q hq p (List.mem_singleton.2 rfl))
    rw [wordsF_snoc]
    split
    · rename_i hm
      refine ⟨i1, ?_⟩
      rw [List.getLast?_concat, Option.map_some]
      have hne : wordsF l ≠ [] := fun e => by rw [e] at hm; cases hm
      rw [List.getLast?_eq_some_getLast hne]
      congr 1
      have hlast := hle _ (List.getLast_mem hne)
      rcases hlast with h4 | h4
      · exact h4
      · obtain ⟨k, hk, hkp⟩ := List.getElem_of_mem hm
        have e : (wordsF l).getLast hne = (wordsF l)[(wordsF l).length - 1]'(by have := List.length_pos_iff.2 hne; omega) := List.getLast_eq_getElem _
        rw [e] at h4 ⊢
        by_cases hkl : k = (wordsF l).length - 1
        · subst hkl
          exact hkp
        · have := List.pairwise_iff_getElem.1 i1 k ((wordsF l).length - 1) hk (by omega) (by omega)
          rw [hkp] at this
          exact absurd this ((cmp_dict mkB).asym h4)
    · rename_i hm
      refine ⟨?_, by rw [List.getLast?_concat, List.getLast?_concat, Option.map_some]⟩
      rw [List.pairwise_append]
      refine ⟨i1, by simp, fun a ha b hb => ?_⟩
      rw [List.mem_singleton] at hb
      subst hb
      rcases hle a ha with e | e
      · rw [e] at ha
        exact absurd ha hm
      · exact e
/-- the last word tells whether a word is new -/
theorem wordsF_last {l : List Post} {p : Post} (h : (l ++ [p]).Pairwise fun p q => headM mkB p.1 q.1 < 0) : p.1.1 ∈ wordsF l ↔ (wordsF l).getLast? = some p.1.1 := by
  constructor
  · intro hm
    have h2 := (wordsF_asc h).2
    rw [wordsF_snoc, if_pos hm, List.getLast?_concat, Option.map_some] at h2
    exact h2
  · intro hl
    exact List.mem_of_getLast? hl
/-- how often: word by word -/
def cntsU (l : List Post) : List Nat := (wordsF l).map (cntW l)
theorem cntW_none {l : List Post} {s : Str} (h : s ∉ wordsF l) : cntW l s = 0 := by
  unfold cntW
  rw [List.filter_eq_nil_iff.2]
  · rfl
  · intro p hp
    simp only [decide_eq_true_eq]
    exact fun e => h (wordsF_mem.2 ⟨p, hp, e⟩)
theorem cntsU_new {l : List Post} {p : Post} (h : p.1.1 ∉ wordsF l) : cntsU (l ++ [p]) = cntsU l ++ [p.2.length] := by
  unfold cntsU
  rw [wordsF_snoc, if_neg h, List.map_append]
  congr 1
  · refine List.map_congr_left fun s hs => ?_
    rw [cntW_snoc, if_neg (fun e => h (by rw [e]; exact hs)), Nat.add_zero]
  · simp only [List.map_cons, List.map_nil]
    rw [cntW_snoc, if_pos rfl, cntW_none h, Nat.zero_add]
theorem cntsU_old {l : List Post} {p : Post} {k : Nat} (hk : (wordsF l)[k]? = some p.1.1) : cntsU (l ++ [p]) = (cntsU l).set k (cntW l p.1.1 + p.2.length) := by
  obtain ⟨hlt, hkp⟩ := List.getElem?_eq_some_iff.1 hk
  have hm : p.1.1 ∈ wordsF l := by rw [← hkp]; exact List.getElem_mem hlt
  unfold cntsU
  rw [wordsF_snoc, if_pos hm]
  apply List.ext_getElem?
  intro i
  rw [List.getElem?_map, List.getElem?_set]
  by_cases hi : k = i
  · subst hi
    rw [if_pos rfl, hk, if_pos (by rw [List.length_map]; exact hlt), Option.map_some, cntW_snoc, if_pos rfl]
  · rw [if_neg hi, List.getElem?_map]
    cases hw : (wordsF l)[i]? with
    | none => rfl
    | some s =>
      rw [Option.map_some, Option.map_some, cntW_snoc, if_neg, Nat.add_zero]
      intro e
      obtain ⟨hi2, hw2⟩ := List.getElem?_eq_some_iff.1 hw
      exact hi ((List.getElem_inj (wordsF_nodup l)).1 (hkp.trans (e.trans hw2.symm)))
/-- the search for the greatest number: what holds after i of them -/
def BestI (C : Nat → Nat) (i : Nat) (b : Int) : Prop :=
  (b = -1 ∧ ∀ j, j < i → C j = 0) ∨ ∃ k : Nat, b = k ∧ k < i ∧ 0 < C k ∧ (∀ j, j < i → C j ≤ C k) ∧ ∀ j, j < k → C j < C k
theorem BestI.zero (C : Nat → Nat) : BestI C 0 (-1) := .inl ⟨rfl, fun j h => by omega⟩
theorem BestI.none0 {C : Nat → Nat} {i : Nat} {b : Int} (h : BestI C i b) (h0 : C i = 0) : BestI C (i + 1) b := by
  rcases h with ⟨rfl, h⟩ | ⟨k, rfl, h1, h2, h3, h4⟩
  · refine .inl ⟨rfl, fun j hj => ?_⟩
    by_cases e : j = i
    · rw [e]; exact h0
    · exact h j (by omega)
  · refine .inr ⟨k, rfl, by omega, h2, fun j hj => ?_, h4⟩
    by_cases e : j = i
    · rw [e, h0]; omega
    · exact h3 j (by omega)
theorem BestI.first {C : Nat → Nat} {i : Nat} (h : BestI C i (-1)) (h0 : 0 < C i) : BestI C (i + 1) i := by
  rcases h with ⟨_, h⟩ | ⟨k, hk, _⟩
  · refine .inr ⟨i, rfl, by omega, h0, fun j hj => ?_, fun j hj => by rw [h j hj]; exact h0⟩
    by_cases e : j = i
    · rw [e]; exact Nat.le_refl _
    · rw [h j (by omega)]; omega
  · omega
theorem BestI.more {C : Nat → Nat} {i k : Nat} (h : BestI C i k) (h0 : C k < C i) : BestI C (i + 1) i := by
  rcases h with ⟨hk, _⟩ | ⟨k', hk, h1, h2, h3, h4⟩
  · omega
  · obtain rfl : k = k' := by omega
    refine .inr ⟨i, rfl, by omega, by omega, fun j hj => ?_, fun j hj => ?_⟩
    · by_cases e : j = i
      · rw [e]; exact Nat.le_refl _
      · have := h3 j (by omega); omega
    · have := h3 j hj
      omega
theorem BestI.less {C : Nat → Nat} {i k : Nat} (h : BestI C i k) (h0 : ¬C k < C i) : BestI C (i + 1) k := by
  rcases h with ⟨hk, _⟩ | ⟨k', hk, h1, h2, h3, h4⟩
  · omega
  · obtain rfl : k = k' := by omega
    refine .inr ⟨k, rfl, by omega, h2, fun j hj => ?_, h4⟩
    by_cases e : j = i
    · rw [e]; omega
    · exact h3 j (by omega)
/-- the numbers that are left after j words -/
def leftC (l : List Post) (j : Nat) : List Nat := (wordsF l).map fun s => if s ∈ (freqS l).take j then 0 else cntW l s
theorem leftC_zero (l : List Post) : leftC l 0 = cntsU l := by
  unfold leftC cntsU
  refine List.map_congr_left fun s _ => ?_
  simp
theorem leftC_at {l : List Post} {j i : Nat} {s : Str} (h : (wordsF l)[i]? = some s) : (leftC l j)[i]? = some (if s ∈ (freqS l).take j then 0 else cntW l s) := by
  unfold leftC
  rw [List.getElem?_map, h]
  rfl
/-- what the search finds is the next word, and what is left then -/
theorem best_next {l : List Post} (hne : ∀ p ∈ l, p.2 ≠ []) (ha : l.Pairwise fun p q => headM mkB p.1 q.1 < 0) {j : Nat} (hj : j < (freqS l).length) {b : Int} (hb : BestI (fun i => ((leftC l j)[i]?).getD 0) (wordsF l).length b) :
    ∃ k : Nat, b = k ∧ ∃ hk : k < (wordsF l).length, (wordsF l)[k] = (freqS l)[j] ∧ leftC l (j + 1) = (leftC l j).set k 0 := by
  have hC : ∀ i (hi : i < (wordsF l).length), ((leftC l j)[i]?).getD 0 = if (wordsF l)[i] ∈ (freqS l).take j then 0 else cntW l (wordsF l)[i] := fun i hi => by
    rw [leftC_at (List.getElem?_eq_getElem hi)]
    rfl
  obtain ⟨s, hs⟩ : ∃ s, (freqS l)[j] = s := ⟨_, rfl⟩
  have hsm : s ∈ freqS l := by rw [← hs]; exact List.getElem_mem hj
  rcases hb with ⟨_, h0⟩ | ⟨k, rfl, hk, hk0, h3, h4⟩
  · exfalso
    obtain ⟨i, hi, his⟩ := List.getElem_of_mem (freqS_mem.1 hsm)
    have h1 := h0 i hi
    simp only at h1
    rw [hC i hi, his, if_neg] at h1
    · have := (cntW_pos hne).2 (freqS_mem.1 hsm)
      omega
    · intro h
      obtain ⟨k, hk, hks⟩ := List.getElem_of_mem h
      rw [List.length_take] at hk
      rw [List.getElem_take] at hks
      have := (List.getElem_inj (freqS_nodup l)).1 (hks.trans hs.symm)
      omega
  · have e := freq_pick hne (wordsF_asc ha).1 (fun s => Iff.rfl) hj hk _ hC h3 h4
    refine ⟨k, rfl, hk, e, ?_⟩
    apply List.ext_getElem?
    intro i
    rw [List.getElem?_set]
    by_cases hki : k = i
    · subst hki
      have hmem : (wordsF l)[k] ∈ (freqS l).take (j + 1) := by
        rw [e]
        exact List.mem_take_iff_getElem.2 ⟨j, by omega, rfl⟩
      have hlen : k < (leftC l j).length := by unfold leftC; rw [List.length_map]; exact hk
      rw [leftC_at (List.getElem?_eq_getElem hk), if_pos hmem, if_pos rfl, if_pos hlen]
    · rw [if_neg hki]
      cases hw : (wordsF l)[i]? with
      | none => unfold leftC; rw [List.getElem?_map, List.getElem?_map, hw]; rfl
      | some t =>
        rw [leftC_at hw, leftC_at hw]
        congr 1
        have hne2 : t ≠ (freqS l)[j] := fun he => by
          obtain ⟨hi2, hw2⟩ := List.getElem?_eq_some_iff.1 hw
          exact hki ((List.getElem_inj (wordsF_nodup l)).1 (e.trans (he.symm.trans hw2.symm)))
        have hiff : t ∈ (freqS l).take (j + 1) ↔ t ∈ (freqS l).take j := by
          rw [List.take_add_one, List.getElem?_eq_getElem hj]
          simp only [Option.toList_some, List.mem_append, List.mem_singleton, hne2, or_false]
        by_cases ht : t ∈ (freqS l).take j
        · rw [if_pos ht, if_pos (hiff.2 ht)]
        · rw [if_neg ht, if_neg (fun h => ht (hiff.1 h))]
end Go.Ap
