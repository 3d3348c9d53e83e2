/-
  Blocks of the reference: one pair more.
-/
import Derived.Test.YtbahddjbncinbaaGreatDoorGq
namespace Go.Ap
open Go Go.RowKit
theorem blkG_snoc (p : Nat × Nat) : ∀ (l : List (Nat × Nat)) (c : Blk), ∃ (init : List Blk) (d : Blk), blkG c l = init ++ [d] ∧
    blkG c (l ++ [p]) = if (p.1 : Int) = d.fst + d.len ∧ (p.2 : Int) = d.snd + d.len then init ++ [⟨d.fst, d.snd, d.len + 1⟩] else init ++ [d, ⟨p.1, p.2, 1⟩]
  | [], c => by
    refine ⟨[], c, rfl, ?_⟩
    simp only [List.nil_append, blkG]
  | q :: l, c => by
    by_cases h : (q.1 : Int) = c.fst + c.len ∧ (q.2 : Int) = c.snd + c.len
    · obtain ⟨init, d, h1, h2⟩ := blkG_snoc p l ⟨c.fst, c.snd, c.len + 1⟩
      exact ⟨init, d, by rw [blkG, if_pos h, h1], by rw [List.cons_append, blkG, if_pos h, h2]⟩
    · obtain ⟨init, d, h1, h2⟩ := blkG_snoc p l ⟨q.1, q.2, 1⟩
      refine ⟨c :: init, d, by rw [blkG, if_neg h, h1]; rfl, ?_⟩
      rw [List.cons_append, blkG, if_neg h, h2]
      split <;> rfl
/-- one pair more at the end: the last block grows, or a new one begins -/
theorem blkF_snoc (l : List (Nat × Nat)) (p : Nat × Nat) : (blkF l = [] ∧ blkF (l ++ [p]) = [⟨p.1, p.2, 1⟩]) ∨ ∃ (init : List Blk) (d : Blk), blkF l = init ++ [d] ∧
    blkF (l ++ [p]) = if (p.1 : Int) = d.fst + d.len ∧ (p.2 : Int) = d.snd + d.len then init ++ [⟨d.fst, d.snd, d.len + 1⟩] else init ++ [d, ⟨p.1, p.2, 1⟩] := by
  cases l with
  | nil => exact .inl ⟨rfl, rfl⟩
  | cons q l =>
    obtain ⟨init, d, h1, h2⟩ := blkG_snoc p l ⟨q.1, q.2, 1⟩
    exact .inr ⟨init, d, h1, h2⟩
/-- the numbers of a block are small -/
theorem blkG_small {N : Int} : ∀ (l : List (Nat × Nat)) (c : Blk), (∀ p ∈ l, (p.1 : Int) ≤ N ∧ (p.2 : Int) ≤ N) → 0 ≤ c.fst ∧ c.fst ≤ N ∧ 0 ≤ c.snd ∧ c.snd ≤ N → ∀ d ∈ blkG c l, 0 ≤ d.fst ∧ d.fst ≤ N ∧ 0 ≤ d.snd ∧ d.snd ≤ N
  | [], c, _, hc, d, hd => by
    rw [blkG, List.mem_singleton] at hd
    subst hd
    exact hc
  | q :: l, c, hl, hc, d, hd => by
    have hq := hl q (List.mem_cons_self ..)
    have hl' : ∀ p ∈ l, (p.1 : Int) ≤ N ∧ (p.2 : Int) ≤ N := fun p hp => hl p (List.mem_cons_of_mem _ hp)
    rw [blkG] at hd
    split at hd
    · exact blkG_small l ⟨c.fst, c.snd, c.len + 1⟩ hl' hc d hd
    · rcases List.mem_cons.1 hd with rfl | hd
      · exact hc
      · exact blkG_small l _ hl' ⟨by simp only; omega, by simp only; omega, by simp only; omega, by simp only; omega⟩ d hd
theorem blkF_small {N : Int} {l : List (Nat × Nat)} (h : ∀ p ∈ l, (p.1 : Int) ≤ N ∧ (p.2 : Int) ≤ N) : ∀ d ∈ blkF l, 0 ≤ d.fst ∧ d.fst ≤ N ∧ 0 ≤ d.snd ∧ d.snd ≤ N := by
  cases l with
  | nil => intro d hd; simp [blkF] at hd
  | cons q l =>
    have hq := h q (List.mem_cons_self ..)
    exact blkG_small l _ (fun p hp => h p (List.mem_cons_of_mem _ hp)) ⟨by simp only; omega, by simp only; omega, by simp only; omega, by simp only; omega⟩
/-- the length of the last block is set anew -/
theorem OwnB.last {w : World} {base g m c : Nat} {init : List Blk} {d : Blk} (h : OwnB w base (.slice (some ⟨g, 0, none⟩) m c) (init ++ [d])) (z : Int) : OwnB (w.setCell ⟨g, init.length * 3 + 2, none⟩ (.int .i64 z)) base (.slice (some ⟨g, 0, none⟩) m c) (init ++ [⟨d.fst, d.snd, z⟩]) := by
  have hfl : ∀ l : List Blk, (l.flatMap blkC).length = l.length * 3 := fun l => by
    induction l with
    | nil => rfl
    | cons x l ih => rw [List.flatMap_cons, List.length_append, ih, List.length_cons]; simp [blkC]; omega
  unfold OwnB at h ⊢
  obtain ⟨h1, h2⟩ := h
  refine ⟨by rw [hfl], ?_⟩
  rcases h2 with ⟨h0, _⟩ | ⟨g', cap, cur, he, hbb, hg, r1, r2, r3, r4⟩
  · cases h0
  · simp only [Value.slice.injEq, Option.some.injEq, Addr.mk.injEq, and_true] at he
    obtain ⟨rfl, hm, rfl⟩ := he
    refine .inr ⟨g, c, cur.setIfInBounds (init.length * 3 + 2) (.int .i64 z), by rw [hm]; simp, hbb, ?_, by simpa using r1, r2, by simpa using r3, ?_⟩
    · simp [World.setCell, Array.getElem?_modify, hg]
    · rw [Array.toList_setIfInBounds, List.take_set, show (init ++ [(⟨d.fst, d.snd, z⟩ : Blk)]).length = (init ++ [d]).length by simp, r4, List.flatMap_append, List.flatMap_append, List.set_append_right _ _ (by rw [hfl]; omega), hfl]
      congr 1
      rw [show init.length * 3 + 2 - init.length * 3 = 2 by omega]
      simp [blkC]
/-- where the last block lies -/
theorem OwnB.ends {w : World} {base m c : Nat} {av : Option Addr} {init : List Blk} {d : Blk} (h : OwnB w base (.slice av m c) (init ++ [d])) : ∃ g, av = some ⟨g, 0, none⟩ ∧ m = init.length + 1 ∧ base ≤ g ∧ BlkR w g (init.length * 3) d ∧ ∀ j, w.frozen? ⟨g, j, none⟩ = false := by
  have hc : ∀ g, Value.slice av m c = .slice (some ⟨g, 0, none⟩) m c → ∀ i u, (blkC d)[i]? = some u → w.cell? ⟨g, init.length * 3 + i, none⟩ = some u := fun g hg i u hu => by
    have h' : w.ownsRow base 54 3 (.slice (some ⟨g, 0, none⟩) m c) (init ++ [d]).length ((init ++ [d]).flatMap blkC) := by rw [← hg]; exact h
    have := h'.cells (g := g) rfl (init.length * 3 + i) u (flat_at (f := blkC) (fun _ => rfl) (by simp) hu)
    have hadd : (⟨g, 0, none⟩ : Addr).add (init.length * 3 + i) = ⟨g, init.length * 3 + i, none⟩ := by unfold Addr.add; split <;> simp_all
    rwa [hadd] at this
  rcases h.2 with ⟨_, h0⟩ | ⟨g, cap, cur, he, hbb, hg, _⟩
  · simp at h0
  · simp only [Value.slice.injEq] at he
    obtain ⟨rfl, rfl, rfl⟩ := he
    exact ⟨g, rfl, by simp, hbb, ⟨hc g rfl 0 _ rfl, hc g rfl 1 _ rfl, hc g rfl 2 _ rfl⟩, fun j => by simp [World.frozen?, hg]⟩
end Go.Ap
