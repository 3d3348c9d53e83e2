/-
  Plain law: a list of small numbers, sorted and compacted, is the set of its members.
-/
import Derived.Test.YtcmckcmckbdmhaaW45
import Derived.Test.YtcmckcmckbdmhaaW41
import Derived.Lib.SlicesCompact
namespace Go.Proofs.Ytcmckcmckbdmhaa
open Go.RowKit Go.Ap

theorem compactUpTo_sorted (d : Array Int) (hs : ∀ i j, i ≤ j → j < d.size → d[i]! ≤ d[j]!) : ∀ m, m ≤ d.size →
    (Go.Lib.compactUpTo d m).Pairwise (· < ·) ∧ ∀ x, x ∈ Go.Lib.compactUpTo d m ↔ ∃ j, j < m ∧ d[j]! = x
  | 0, _ => by simp [Go.Lib.compactUpTo]
  | m + 1, hm => by
    obtain ⟨h1, h2⟩ := compactUpTo_sorted d hs m (by omega)
    rw [Go.Lib.compactUpTo_succ]
    by_cases h0 : m = 0
    · subst h0
      have hk : Go.Lib.keeps d 0 = true := Go.Lib.keeps_lt_one d 0 (by omega)
      rw [if_pos hk]
      refine ⟨by simp [Go.Lib.compactUpTo], fun x => ?_⟩
      simp only [Go.Lib.compactUpTo, List.range_zero, List.filter_nil, List.map_nil, List.nil_append, List.mem_singleton]
      constructor
      · rintro rfl; exact ⟨0, by omega, rfl⟩
      · rintro ⟨j, hj, rfl⟩; rw [show j = 0 by omega]
    · by_cases he : d[m]! = d[m - 1]!
      · rw [Go.Lib.keeps_neg (by omega) he, if_neg (by simp), List.append_nil]
        refine ⟨h1, fun x => ?_⟩
        rw [h2]
        constructor
        · rintro ⟨j, hj, rfl⟩; exact ⟨j, by omega, rfl⟩
        · rintro ⟨j, hj, rfl⟩
          by_cases hjm : j = m
          · subst hjm; exact ⟨j - 1, by omega, he.symm⟩
          · exact ⟨j, by omega, rfl⟩
      · rw [Go.Lib.keeps_pos he, if_pos rfl]
        have hlt : ∀ j, j < m → d[j]! < d[m]! := by
          intro j hj
          have e1 := hs j (m - 1) (by omega) (by omega)
          have e2 := hs (m - 1) m (by omega) (by omega)
          omega
        refine ⟨List.pairwise_append.2 ⟨h1, by simp, fun x hx y hy => ?_⟩, fun x => ?_⟩
        · obtain ⟨j, hj, rfl⟩ := (h2 x).1 hx
          rw [List.mem_singleton.1 hy]
          exact hlt j hj
        · rw [List.mem_append, h2, List.mem_singleton]
          constructor
          · rintro (⟨j, hj, rfl⟩ | rfl)
            · exact ⟨j, by omega, rfl⟩
            · exact ⟨m, by omega, rfl⟩
          · rintro ⟨j, hj, rfl⟩
            by_cases hjm : j = m
            · subst hjm; exact .inr rfl
            · exact .inl ⟨j, by omega, rfl⟩

theorem get!_toArray (ys : List Int) (i : Nat) (hi : i < ys.length) : ys.toArray[i]! = ys[i] := by
  rw [getElem!_pos ys.toArray i (by simpa using hi)]; simp

theorem compact_sorted (ys : List Int) (hs : ys.Pairwise (· ≤ ·)) : (Go.Lib.compact ys).Pairwise (· < ·) ∧ ∀ x, x ∈ Go.Lib.compact ys ↔ x ∈ ys := by
  have hs' : ∀ i j, i ≤ j → j < ys.toArray.size → ys.toArray[i]! ≤ ys.toArray[j]! := by
    intro i j hij hj
    have hj' : j < ys.length := by simpa using hj
    rw [get!_toArray ys i (by omega), get!_toArray ys j hj']
    rcases Nat.lt_or_ge i j with h | h
    · exact (List.pairwise_iff_getElem.1 hs) i j _ _ h
    · have : i = j := by omega
      subst this; omega
  obtain ⟨h1, h2⟩ := compactUpTo_sorted ys.toArray hs' ys.length (by simp)
  refine ⟨h1, fun x => ?_⟩
  rw [Go.Lib.compact, h2]
  constructor
  · rintro ⟨j, hj, rfl⟩; rw [get!_toArray ys j hj]; exact List.getElem_mem _
  · intro hx
    obtain ⟨j, hj, rfl⟩ := List.getElem_of_mem hx
    exact ⟨j, hj, get!_toArray ys j hj⟩

theorem srt_sorted (xs : List Int) : (srt xs).Pairwise (· ≤ ·) := by
  have h := List.pairwise_mergeSort (le := fun x y : Int => decide (x ≤ y)) (by intro a b c; simp; omega) (by intro a b; simp; omega) xs
  exact h.imp (by simp)

theorem of_plain (xs : List Int) (h : xs.any wideB = false) : Go.Lib.compact (srt xs) = memb (hasI xs) 64 := by
  obtain ⟨h1, h2⟩ := compact_sorted (srt xs) (srt_sorted xs)
  have hm : ∀ x, x ∈ Go.Lib.compact (srt xs) ↔ x ∈ xs := fun x => by rw [h2]; exact List.mem_mergeSort
  have hr : ∀ x ∈ xs, 0 ≤ x ∧ x < 64 := by
    intro x hx
    have := List.any_eq_false.1 h x hx
    simp [wideB] at this
    omega
  refine setL_ext ⟨h1, fun x hx => ?_⟩ (memb_setL _ _ (by omega)) fun k => ?_
  · have := hr x ((hm x).1 hx); omega
  · rw [memb_contains, Bool.eq_iff_iff]
    simp only [List.contains_iff_mem, hm, hasI, Bool.and_eq_true, decide_eq_true_eq]
    constructor
    · intro hx; have := hr k hx; exact ⟨by omega, hx⟩
    · rintro ⟨_, hx⟩; exact hx

end Go.Proofs.Ytcmckcmckbdmhaa
