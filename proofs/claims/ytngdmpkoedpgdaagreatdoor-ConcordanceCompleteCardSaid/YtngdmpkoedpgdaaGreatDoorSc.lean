/-
  A group sorted, each line once.
-/
import Derived.Test.YtngdmpkoedpgdaaGreatDoorGh
import Derived.Test.YtngdmpkoedpgdaaGreatDoorShelf
import Derived.Sort.OwnSorted
import Derived.Lib.SlKeysI
namespace Go.Ap
open Go Go.RowKit
def sortI (l : List Int) : List Int := l.mergeSort fun x y => decide (x ≤ y)
theorem sortI_perm (l : List Int) : (sortI l).Perm l := List.mergeSort_perm _ _
theorem sortI_asc (l : List Int) : (sortI l).Pairwise (· ≤ ·) := by
  have := List.pairwise_mergeSort (le := fun x y : Int => decide (x ≤ y)) (fun a b c h1 h2 => by simp only [decide_eq_true_eq] at *; omega) (fun a b => by simp only [Bool.or_eq_true, decide_eq_true_eq]; omega) l
  exact this.imp fun h => by simpa using h
/-- of a list in order, each once -/
theorem compact_asc {zs : List Int} (hs : zs.Pairwise (· ≤ ·)) : (Lib.compact zs).Pairwise (· < ·) ∧ ∀ x, x ∈ Lib.compact zs ↔ x ∈ zs := by
  have get : ∀ j (h : j < zs.length), zs.toArray[j]! = zs[j] := fun j h => by rw [getElem!_pos _ j (by simpa using h)]; simp
  have key : ∀ m, m ≤ zs.length → (Lib.compactUpTo zs.toArray m).Pairwise (· < ·) ∧ (∀ x, x ∈ Lib.compactUpTo zs.toArray m ↔ ∃ j, ∃ h : j < zs.length, j < m ∧ zs[j] = x) := fun m => by
    induction m with
    | zero => exact fun _ => ⟨by simp [Lib.compactUpTo], fun x => by simp [Lib.compactUpTo]⟩
    | succ m ih =>
      intro hm
      obtain ⟨h1, h2⟩ := ih (by omega)
      rw [Lib.compactUpTo_succ]
      have hasc := List.pairwise_iff_getElem.1 hs
      cases hk : Lib.keeps zs.toArray m
      · have hmp : 0 < m := Nat.pos_of_ne_zero fun h0 => by
          subst h0
          rw [Lib.keeps_lt_one _ 0 (by omega)] at hk
          cases hk
        have heq : zs[m] = zs[m - 1] := Classical.byContradiction fun hne => by
          rw [Lib.keeps_pos (by rw [get m (by omega), get (m - 1) (by omega)]; exact hne)] at hk
          cases hk
        rw [if_neg (by simp), List.append_nil]
        refine ⟨h1, fun x => (h2 x).trans ⟨fun ⟨j, hj, hjm, e⟩ => ⟨j, hj, by omega, e⟩, fun ⟨j, hj, hjm, e⟩ => ?_⟩⟩
        by_cases hjm' : j = m
        · subst hjm'
          exact ⟨j - 1, by omega, by omega, by rw [← heq]; exact e⟩
        · exact ⟨j, hj, by omega, e⟩
      · rw [if_pos rfl, get m (by omega)]
        refine ⟨List.pairwise_append.2 ⟨h1, by simp, fun a ha b hb => ?_⟩, fun x => ?_⟩
        · rw [List.mem_singleton] at hb
          subst hb
          obtain ⟨j, hj, hjm, rfl⟩ := (h2 a).1 ha
          have h3 := hasc j m hj (by omega) hjm
          by_cases hlt : zs[j] < zs[m]
          · exact hlt
          · exfalso
            have heq : zs[m] = zs[m - 1] := by
              by_cases hj1 : j = m - 1
              · subst hj1; omega
              · have h4 := hasc j (m - 1) hj (by omega) (by omega)
                have h5 := hasc (m - 1) m (by omega) (by omega) (by omega)
                omega
            rw [Lib.keeps_neg (by omega) (by rw [get m (by omega), get (m - 1) (by omega)]; exact heq)] at hk
            cases hk
        · rw [List.mem_append, h2, List.mem_singleton]
          constructor
          · rintro (⟨j, hj, hjm, e⟩ | rfl)
            · exact ⟨j, hj, by omega, e⟩
            · exact ⟨m, by omega, by omega, rfl⟩
          · rintro ⟨j, hj, hjm, e⟩
            by_cases hjm' : j = m
            · subst hjm'; exact .inr e.symm
            · exact .inl ⟨j, hj, by omega, e⟩
  obtain ⟨h1, h2⟩ := key zs.length (Nat.le_refl _)
  refine ⟨h1, fun x => (h2 x).trans ⟨fun ⟨j, hj, _, e⟩ => e ▸ List.getElem_mem hj, fun hx => ?_⟩⟩
  obtain ⟨j, hj, e⟩ := List.getElem_of_mem hx
  exact ⟨j, hj, hj, e⟩
end Go.Ap
namespace Go.Proofs.YtngdmpkoedpgdaaGreatDoor
open Go.RowKit Go.Ap Go.Shelf Go.Proofs Go.Sort

theorem sortG (base : Nat) (v : Value) (xs : List Int) (w : World) (ho : OwnI 3 w base v xs) (hl : xs.length ≤ 1000000) (h0 : xs ≠ []) :
    ∃ a c, v = .slice a xs.length c ∧ Calls Tryz.prog 124 #[.slice a xs.length c] w fun e w' => e = .returned (.tuple #[]) ∧ OwnI 3 w' base v (Go.Ap.sortI xs) ∧ w.grownBy w' v.ownBlock := by
  have h0' := List.length_pos_iff.2 h0
  rcases ho.1.2 with ⟨_, hz⟩ | ⟨gb, cap, cur, rfl, hbase, hgb, r1, r2, r3, r4⟩
  · omega
  · have hH : Go.Sort.Holds (Value.int .i64) w gb 0 xs.toArray := holds_of_block_i hgb (by simpa using r4)
    have hgl : gb < w.heap.size := (Array.getElem?_eq_some_iff.1 hgb).1
    refine ⟨_, cap, rfl, (Tryz.slices_Sort_int gb 0 cap xs w hH hgl (by omega)).mono ?_⟩
    rintro e w' ⟨rfl, nn, os, rfl⟩
    have hp := Go.Ap.sortI_perm xs
    have hs := ownsRow_sorted_i (w := w) (n := nn) (os := os) (ts := Go.Ap.sortI xs) (ss := xs) (hp.length_eq) hbase hgb r1 r2 r3
    refine ⟨rfl, ⟨?_, fun x hx => ho.2 x (hp.mem_iff.1 hx)⟩, grownBy_sorted_i _⟩
    rw [hp.length_eq]
    exact hs
theorem compG (base : Nat) (v : Value) (xs : List Int) (w : World) (ho : OwnI 3 w base v xs) (hl : xs.length ≤ 1000000) (h0 : xs ≠ []) (hs : xs.Pairwise (· ≤ ·)) :
    ∃ a c, v = .slice a xs.length c ∧ Calls Tryz.prog 125 #[.slice a xs.length c] w fun e w' => ∃ u, e = .returned u ∧ OwnI 3 w' base u (Lib.compact xs) ∧ w.grownBy w' v.ownBlock ∧ u.ownBlock = v.ownBlock := by
  have h0' := List.length_pos_iff.2 h0
  rcases ho.1.2 with ⟨_, hz⟩ | ⟨gb, cap, cur, rfl, hbase, hgb, r1, r2, r3, r4⟩
  · omega
  · have hH : Go.Sort.Holds (Value.int .i64) w gb 0 xs.toArray := holds_of_block_i hgb (by simpa using r4)
    have hle : (Lib.compact xs).length ≤ xs.length := by
      unfold Lib.compact Lib.compactUpTo
      rw [List.length_map]
      exact Nat.le_trans (List.length_filter_le _ _) (by simp)
    refine ⟨_, cap, rfl, (Tryz.slices_Compact_int gb 0 cap xs w hH (by omega) r1).mono ?_⟩
    rintro e w' ⟨rfl, q, rfl⟩
    have hlen : (Lib.compact xs ++ List.replicate (xs.length - (Lib.compact xs).length) (0 : Int)).length = xs.length := by simp; omega
    have hrow := ownsRow_sorted_i (w := w) (n := q) (os := #[]) (ts := Lib.compact xs ++ List.replicate (xs.length - (Lib.compact xs).length) (0 : Int)) (ss := xs) hlen hbase hgb r1 r2 r3
    have hg := grownBy_sorted_i (w := w) (g := gb) (n := q) (os := #[]) (Lib.compact xs ++ List.replicate (xs.length - (Lib.compact xs).length) (0 : Int)).toArray
    rw [grow_empty] at hrow hg
    refine ⟨_, rfl, ⟨⟨by simp, ?_⟩, fun x hx => ho.2 x ((compact_asc hs).2 x |>.1 hx)⟩, hg, rfl⟩
    rcases hrow.2 with ⟨hz, _⟩ | ⟨g', cap', cur', he, hb', hg', q1, q2, q3, q4⟩
    · cases hz
    · simp only [Value.slice.injEq, Option.some.injEq, Addr.mk.injEq, and_true] at he
      obtain ⟨rfl, _, rfl⟩ := he
      refine .inr ⟨gb, cap, cur', rfl, hbase, hg', by omega, r2, q3, ?_⟩
      have := congrArg (List.take (Lib.compact xs).length) q4
      rw [List.take_take, Nat.mul_one, Nat.min_eq_left hle, ← List.map_take, List.take_left] at this
      rw [Nat.mul_one]
      exact this
end Go.Proofs.YtngdmpkoedpgdaaGreatDoor
