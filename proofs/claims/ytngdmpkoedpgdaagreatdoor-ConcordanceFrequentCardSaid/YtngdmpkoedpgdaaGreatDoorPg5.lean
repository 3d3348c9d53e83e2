/-
  Frequent of the reference in plain words.
-/
import Derived.Test.YtngdmpkoedpgdaaGreatDoorPf5
namespace Go.Ap
open Go Go.RowKit
theorem head_dict {p q : Str × Str} (h : headM mkB p q < 0) : p.1 = q.1 ∨ dictM mkB p.1 q.1 < 0 := by
  unfold headM lexQ at h
  split at h
  · rename_i h1
    exact .inl ((cmp_dict mkB).zero.1 h1)
  · exact .inr h
theorem wordsF_asc {l : List Post} (h : l.Pairwise fun p q => headM mkB p.1 q.1 < 0) : (wordsF l).Pairwise (fun a b => dictM mkB a b < 0) ∧ (wordsF l).getLast? = l.getLast?.map (·.1.1) := by
  induction l using snoc_ind with
  | h0 => simp [wordsF]
  | h1 l p ih =>
    rw [List.pairwise_append] at h
    obtain ⟨h1, _, h3⟩ := h
    obtain ⟨i1, i2⟩ := ih h1
    have hle : ∀ w ∈ wordsF l, w = p.1.1 ∨ dictM mkB w p.1.1 < 0 := fun w hw => by
      obtain ⟨q, hq, rfl⟩ := wordsF_mem.1 hw
      exact head_dict (h3 q hq p (List.mem_singleton.2 rfl))
    rw [wordsF_snoc]
    split
    · rename_i hm
      refine ⟨i1, ?_⟩
      rw [List.getLast?_concat, Option.map_some]
      have hne : wordsF l ≠ [] := fun e => by rw [e] at hm; cases hm
      rw [List.getLast?_eq_some_getLast hne]
      congr 1
      have hlast := hle _ (List.getLast_mem hne)
      rcases hlast with h4 | h4
      · exact h4
      · obtain ⟨k, hk, hkp⟩ := List.getElem_of_mem hm
        have e : (wordsF l).getLast hne = (wordsF l)[(wordsF l).length - 1]'(by have := List.length_pos_iff.2 hne; omega) := List.getLast_eq_getElem _
        rw [e] at h4 ⊢
        by_cases hkl : k = (wordsF l).length - 1
        · subst hkl
          exact hkp
        · have := List.pairwise_iff_getElem.1 i1 k ((wordsF l).length - 1) hk (by omega) (by omega)
          rw [hkp] at this
          exact absurd this ((cmp_dict mkB).asym h4)
    · rename_i hm
      refine ⟨?_, by rw [List.getLast?_concat, List.getLast?_concat, Option.map_some]⟩
      rw [List.pairwise_append]
      refine ⟨i1, by simp, fun a ha b hb => ?_⟩
      rw [List.mem_singleton] at hb
      subst hb
      rcases hle a ha with e | e
      · rw [e] at ha
        exact absurd ha hm
      · exact e
/-- the last word tells whether a word is new -/
theorem wordsF_last {l : List Post} {p : Post} (h : (l ++ [p]).Pairwise fun p q => headM mkB p.1 q.1 < 0) : p.1.1 ∈ wordsF l ↔ (wordsF l).getLast? = some p.1.1 := by
  constructor
  · intro hm
    have h2 := (wordsF_asc h).2
    rw [wordsF_snoc, if_pos hm, List.getLast?_concat, Option.map_some] at h2
    exact h2
  · intro hl
    exact List.mem_of_getLast? hl
/-- how often: word by word -/
def cntsU (l : List Post) : List Nat := (wordsF l).map (cntW l)
theorem cntW_none {l : List Post} {s : Str} (h : s ∉ wordsF l) : cntW l s = 0 := by
  unfold cntW
  rw [List.filter_eq_nil_iff.2]
  · rfl
  · intro p hp
    simp only [decide_eq_true_eq]
    exact fun e => h (wordsF_mem.2 ⟨p, hp, e⟩)
theorem cntsU_new {l : List Post} {p : Post} (h : p.1.1 ∉ wordsF l) : cntsU (l ++ [p]) = cntsU l ++ [p.2.length] := by
  unfold cntsU
  rw [wordsF_snoc, if_neg h, List.map_append]
  congr 1
  · refine List.map_congr_left fun s hs => ?_
    rw [cntW_snoc, if_neg (fun e => h (by rw [e]; exact hs)), Nat.add_zero]
  · simp only [List.map_cons, List.map_nil]
    rw [cntW_snoc, if_pos rfl, cntW_none h, Nat.zero_add]
theorem cntsU_old {l : List Post} {p : Post} {k : Nat} (hk : (wordsF l)[k]? = some p.1.1) : cntsU (l ++ [p]) = (cntsU l).set k (cntW l p.1.1 + p.2.length) := by
  obtain ⟨hlt, hkp⟩ := List.getElem?_eq_some_iff.1 hk
  have hm : p.1.1 ∈ wordsF l := by rw [← hkp]; exact List.getElem_mem hlt
  unfold cntsU
  rw [wordsF_snoc, if_pos hm]
  apply List.ext_getElem?
  intro i
  rw [List.getElem?_map, List.getElem?_set]
  by_cases hi : k = i
  · subst hi
    rw [if_pos rfl, hk, if_pos (by rw [List.length_map]; exact hlt), Option.map_some, cntW_snoc, if_pos rfl]
  · rw [if_neg hi, List.getElem?_map]
    cases hw : (wordsF l)[i]? with
    | none => rfl
    | some s =>
      rw [Option.map_some, Option.map_some, cntW_snoc, if_neg, Nat.add_zero]
      intro e
      obtain ⟨hi2, hw2⟩ := List.getElem?_eq_some_iff.1 hw
      exact hi ((List.getElem_inj (wordsF_nodup l)).1 (hkp.trans (e.trans hw2.symm)))
/-- the search for the greatest number: what holds after i of them -/
def BestI (C : Nat → Nat) (i : Nat) (b : Int) : Prop :=
  (b = -1 ∧ ∀ j, j < i → C j = 0) ∨ ∃ k : Nat, b = k ∧ k < i ∧ 0 < C k ∧ (∀ j, j < i → C j ≤ C k) ∧ ∀ j, j < k → C j < C k
theorem BestI.zero (C : Nat → Nat) : BestI C 0 (-1) := .inl ⟨rfl, fun j h => by omega⟩
theorem BestI.none0 {C : Nat → Nat} {i : Nat} {b : Int} (h : BestI C i b) (h0 : C i = 0) : BestI C (i + 1) b := by
  rcases h with ⟨rfl, h⟩ | ⟨k, rfl, h1, h2, h3, h4⟩
  · refine .inl ⟨rfl, fun j hj => ?_⟩
    by_cases e : j = i
    · rw [e]; exact h0
    · exact h j (by omega)
  · refine .inr ⟨k, rfl, by omega, h2, fun j hj => ?_, h4⟩
    by_cases e : j = i
    · rw [e, h0]; omega
    · exact h3 j (by omega)
theorem BestI.first {C : Nat → Nat} {i : Nat} (h : BestI C i (-1)) (h0 : 0 < C i) : BestI C (i + 1) i := by
  rcases h with ⟨_, h⟩ | ⟨k, hk, _⟩
  · refine .inr ⟨i, rfl, by omega, h0, fun j hj => ?_, fun j hj => by rw [h j hj]; exact h0⟩
    by_cases e : j = i
    · rw [e]; exact Nat.le_refl _
    · rw [h j (by omega)]; omega
  · omega
theorem BestI.more {C : Nat → Nat} {i k : Nat} (h : BestI C i k) (h0 : C k < C i) : BestI C (i + 1) i := by
  rcases h with ⟨hk, _⟩ | ⟨k', hk, h1, h2, h3, h4⟩
  · omega
  · obtain rfl : k = k' := by omega
    refine .inr ⟨i, rfl, by omega, by omega, fun j hj => ?_, fun j hj => ?_⟩
    · by_cases e : j = i
      · rw [e]; exact Nat.le_refl _
      · have := h3 j (by omega); omega
    · have := h3 j hj
      omega
theorem BestI.less {C : Nat → Nat} {i k : Nat} (h : BestI C i k) (h0 : ¬C k < C i) : BestI C (i + 1) k := by
  rcases h with ⟨hk, _⟩ | ⟨k', hk, h1, h2, h3, h4⟩
  · omega
  · obtain rfl : k = k' := by omega
    refine .inr ⟨k, rfl, by omega, h2, fun j hj => ?_, h4⟩
    by_cases e : j = i
    · rw [e]; omega
    · exact h3 j (by omega)
/-- the numbers that are left after j words -/
def leftC (l : List Post) (j : Nat) : List Nat := (wordsF l).map fun s => if s ∈ (freqS l).take j then 0 else cntW l s
theorem leftC_zero (l : List Post) : leftC l 0 = cntsU l := by
  unfold leftC cntsU
  refine List.map_congr_left fun s _ => ?_
  simp
theorem leftC_at {l : List Post} {j i : Nat} {s : Str} (h : (wordsF l)[i]? = some s) : (leftC l j)[i]? = some (if s ∈ (freqS l).take j then 0 else cntW l s) := by
  unfold leftC
  rw [List.getElem?_map, h]
  rfl
/-- what the search finds is the next word, and what is left then -/
theorem best_next {l : List Post} (hne : ∀ p ∈ l, p.2 ≠ []) (ha : l.Pairwise fun p q => headM mkB p.1 q.1 < 0) {j : Nat} (hj : j < (freqS l).length) {b : Int} (hb : BestI (fun i => ((leftC l j)[i]?).getD 0) (wordsF l).length b) :
    ∃ k : Nat, b = k ∧ ∃ hk : k < (wordsF l).length, (wordsF l)[k] = (freqS l)[j] ∧ leftC l (j + 1) = (leftC l j).set k 0 := by
  have hC : ∀ i (hi : i < (wordsF l).length), ((leftC l j)[i]?).getD 0 = if (wordsF l)[i] ∈ (freqS l).take j then 0 else cntW l (wordsF l)[i] := fun i hi => by
    rw [leftC_at (List.getElem?_eq_getElem hi)]
    rfl
  obtain ⟨s, hs⟩ : ∃ s, (freqS l)[j] = s := ⟨_, rfl⟩
  have hsm : s ∈ freqS l := by rw [← hs]; exact List.getElem_mem hj
  rcases hb with ⟨_, h0⟩ | ⟨k, rfl, hk, hk0, h3, h4⟩
  · exfalso
    obtain ⟨i, hi, his⟩ := List.getElem_of_mem (freqS_mem.1 hsm)
    have h1 := h0 i hi
    simp only at h1
    rw [hC i hi, his, if_neg] at h1
    · have := (cntW_pos hne).2 (freqS_mem.1 hsm)
      omega
    · intro h
      obtain ⟨k, hk, hks⟩ := List.getElem_of_mem h
      rw [List.length_take] at hk
      rw [List.getElem_take] at hks
      have := (List.getElem_inj (freqS_nodup l)).1 (hks.trans hs.symm)
      omega
  · have e := freq_pick hne (wordsF_asc ha).1 (fun s => Iff.rfl) hj hk _ hC h3 h4
    refine ⟨k, rfl, hk, e, ?_⟩
    apply List.ext_getElem?
    intro i
    rw [List.getElem?_set]
    by_cases hki : k = i
    · subst hki
      have hmem : (wordsF l)[k] ∈ (freqS l).take (j + 1) := by
        rw [e]
        exact List.mem_take_iff_getElem.2 ⟨j, by omega, rfl⟩
      have hlen : k < (leftC l j).length := by unfold leftC; rw [List.length_map]; exact hk
      rw [leftC_at (List.getElem?_eq_getElem hk), if_pos hmem, if_pos rfl, if_pos hlen]
    · rw [if_neg hki]
      cases hw : (wordsF l)[i]? with
      | none => unfold leftC; rw [List.getElem?_map, List.getElem?_map, hw]; rfl
      | some t =>
        rw [leftC_at hw, leftC_at hw]
        congr 1
        have hne2 : t ≠ (freqS l)[j] := fun he => by
          obtain ⟨hi2, hw2⟩ := List.getElem?_eq_some_iff.1 hw
          exact hki ((List.getElem_inj (wordsF_nodup l)).1 (e.trans (he.symm.trans hw2.symm)))
        have hiff : t ∈ (freqS l).take (j + 1) ↔ t ∈ (freqS l).take j := by
          rw [List.take_add_one, List.getElem?_eq_getElem hj]
          simp only [Option.toList_some, List.mem_append, List.mem_singleton, hne2, or_false]
        by_cases ht : t ∈ (freqS l).take j
        · rw [if_pos ht, if_pos (hiff.2 ht)]
        · rw [if_neg ht, if_neg (fun h => ht (hiff.1 h))]
end Go.Ap
