/-
  Plain laws on the groups: they divide the sources, they stand by their first members, and who is joined lies in one.
-/
import Derived.Test.YtbcnbchpcbglhaaC2
namespace Go.Proofs.Ytbcnbchpcbglhaa
open Go.RowKit Go.Ap Go.Shelf Go.Proofs

section
variable {adj : Nat → Nat → Bool} {n : Nat} (hs : ∀ a b, adj a b = adj b a)
include hs

omit hs in
theorem clu_mem {l : List Int} (h : l ∈ cluU (connB adj n) n n) : ∃ i, i < n ∧ isL (connB adj n) i = true ∧ l = memb (connB adj n i) n := by
  obtain ⟨i, hi, rfl⟩ := List.mem_map.1 h
  obtain ⟨h1, h2⟩ := List.mem_filter.1 hi
  exact ⟨i, List.mem_range.1 h1, h2, rfl⟩
theorem clu_has {i : Nat} (hi : i < n) : ∃ l ∈ cluU (connB adj n) n n, (i : Int) ∈ l := by
  obtain ⟨l, hl, hb⟩ := List.any_eq_true.1 (clu_joined hs (Conn.refl (adj := adj) hi))
  exact ⟨l, hl, List.contains_iff_mem.1 (Bool.and_eq_true_iff.1 hb).1⟩
theorem clu_in {l : List Int} (hl : l ∈ cluU (connB adj n) n n) {i j : Nat} (hi : (i : Int) ∈ l) : Conn adj n i j ↔ (j : Int) ∈ l := by
  obtain ⟨m, hm, _, rfl⟩ := clu_mem hl
  obtain ⟨i', e, _, hc⟩ := memb_mem.1 hi
  obtain rfl : i = i' := by omega
  have hmi := connB_iff.1 hc
  constructor
  · intro h
    exact memb_mem.2 ⟨j, rfl, h.right, connB_iff.2 (hmi.trans h)⟩
  · intro h
    obtain ⟨j', e, _, hc⟩ := memb_mem.1 h
    obtain rfl : j = j' := by omega
    exact (hmi.symm hs).trans (connB_iff.1 hc)
theorem clu_hasI {l : List Int} (hl : l ∈ cluU (connB adj n) n n) {i j : Nat} (h : Conn adj n i j) : hasI l i = hasI l j := by
  unfold hasI
  rw [Bool.eq_iff_iff, List.contains_iff_mem, List.contains_iff_mem]
  exact ⟨fun hi => (clu_in hs hl hi).1 h, fun hj => (clu_in hs hl hj).1 (h.symm hs)⟩

omit hs in
theorem idxG_congr {p q : Nat → Bool} : ∀ f k, (∀ j, k ≤ j → j < k + f → p j = q j) → idxG p f k = idxG q f k
  | 0, _, _ => rfl
  | f + 1, k, h => by
    rw [idxG, idxG, h k (Nat.le_refl _) (by omega), idxG_congr f (k + 1) (fun j h1 h2 => h j (by omega) (by omega))]
omit hs in
theorem idxG_found {p : Nat → Bool} : ∀ f k, (∃ j, k ≤ j ∧ j < k + f ∧ p j = true) → ∃ j : Nat, idxG p f k = j ∧ k ≤ j ∧ j < k + f ∧ p j = true
  | 0, k, ⟨j, h1, h2, _⟩ => by omega
  | f + 1, k, ⟨j, h1, h2, h3⟩ => by
    rw [idxG]
    cases hk : p k
    · rw [if_neg (by simp)]
      by_cases e : j = k
      · subst e; rw [h3] at hk; cases hk
      · obtain ⟨i, g1, g2, g3, g4⟩ := idxG_found f (k + 1) ⟨j, by omega, by omega, h3⟩
        exact ⟨i, g1, by omega, by omega, g4⟩
    · rw [if_pos rfl]
      exact ⟨k, rfl, Nat.le_refl _, by omega, hk⟩
omit hs in
theorem place_congr {xss : List (List Int)} {s t : Int} (h : ∀ l ∈ xss, hasI l s = hasI l t) : placeL xss s = placeL xss t := by
  unfold placeL idxF
  refine idxG_congr _ _ fun j _ hj => ?_
  have hj' : j < xss.length := by omega
  simp only [pAt, List.getElem?_eq_getElem hj', Option.elim_some]
  exact h _ (List.getElem_mem hj')
omit hs in
theorem place_found {xss : List (List Int)} {s : Int} (h : ∃ l ∈ xss, s ∈ l) : ∃ j : Nat, placeL xss s = j ∧ ∃ hj : j < xss.length, s ∈ xss[j] := by
  obtain ⟨l, hl, hsl⟩ := h
  obtain ⟨j, hj, rfl⟩ := List.getElem_of_mem hl
  obtain ⟨i, g1, _, g3, g4⟩ := idxG_found (p := pAt (fun l => hasI l s) xss) xss.length 0 ⟨j, by omega, by omega, by simp [pAt, hj, hasI]; exact hsl⟩
  have hi : i < xss.length := by omega
  refine ⟨i, g1, hi, ?_⟩
  simp only [pAt, List.getElem?_eq_getElem hi, Option.elim_some] at g4
  exact List.contains_iff_mem.1 g4
theorem place_iff {i j : Nat} (hi : i < n) (hj : j < n) : placeL (cluU (connB adj n) n n) i = placeL (cluU (connB adj n) n n) j ↔ Conn adj n i j := by
  constructor
  · intro h
    obtain ⟨p, hp, hpl, hm⟩ := place_found (clu_has hs hi)
    obtain ⟨q, hq, hql, hm'⟩ := place_found (clu_has hs hj)
    obtain rfl : p = q := by omega
    exact (clu_in hs (List.getElem_mem hpl) hm).2 hm'
  · intro h
    exact place_congr fun l hl => clu_hasI hs hl h

omit hs in
theorem clu_nonempty : ∀ l ∈ cluU (connB adj n) n n, 0 < l.length ∧ l.Pairwise (· ≤ ·) := by
  intro l hl
  obtain ⟨i, hi, _, rfl⟩ := clu_mem hl
  have : (i : Int) ∈ memb (connB adj n i) n := memb_mem.2 ⟨i, rfl, hi, connB_iff.2 (.refl hi)⟩
  exact ⟨List.length_pos_of_mem this, (memb_pair _ _).imp (fun h => by omega)⟩
theorem clu_head {i : Nat} (hi : i < n) (hl : isL (connB adj n) i = true) : nth (memb (connB adj n i) n) 0 = (i : Int) := by
  have hm : (i : Int) ∈ memb (connB adj n i) n := memb_mem.2 ⟨i, rfl, hi, connB_iff.2 (.refl hi)⟩
  have hpos := List.length_pos_of_mem hm
  obtain ⟨j, e, hj, hc⟩ := memb_mem.1 (nth_mem hpos)
  have hle : nth (memb (connB adj n i) n) 0 ≤ (i : Int) := by
    obtain ⟨k, hk, hke⟩ := List.getElem_of_mem hm
    rcases Nat.eq_zero_or_pos k with h0 | h0
    · subst h0; rw [nth_eq hpos, hke]; exact Int.le_refl _
    · have := List.pairwise_iff_getElem.1 (memb_pair (connB adj n i) n) 0 k hpos hk h0
      rw [nth_eq hpos, ← hke]
      exact Int.le_of_lt this
  rcases Nat.lt_or_ge j i with h | h
  · have := List.all_eq_true.1 hl j (List.mem_range.2 h)
    rw [connB_iff.2 ((connB_iff.1 hc).symm hs)] at this
    cases this
  · omega
theorem clu_heads : Heads (cluU (connB adj n) n n) := by
  refine ⟨fun l hl => (clu_nonempty l hl).1, fun k hk => ?_⟩
  have hp : ((List.range n).filter (isL (connB adj n))).Pairwise (· < ·) := List.pairwise_lt_range.filter _
  have hlen : (cluU (connB adj n) n n).length = ((List.range n).filter (isL (connB adj n))).length := by unfold cluU; rw [List.length_map]
  have key : ∀ k (hk : k < (cluU (connB adj n) n n).length), nth (row (cluU (connB adj n) n n) k) 0 = ((((List.range n).filter (isL (connB adj n)))[k]'(by rw [← hlen]; exact hk) : Nat) : Int) := by
    intro k hk
    have hk' : k < ((List.range n).filter (isL (connB adj n))).length := by rw [← hlen]; exact hk
    have hm := List.getElem_mem hk'
    obtain ⟨h1, h2⟩ := List.mem_filter.1 hm
    rw [row_eq hk]
    simp only [cluU, List.getElem_map]
    exact clu_head hs (List.mem_range.1 h1) h2
  rw [key k (by omega), key (k + 1) hk]
  have := List.pairwise_iff_getElem.1 hp k (k + 1) (by omega) (by omega) (by omega)
  omega
theorem clu_nodup : (cluU (connB adj n) n n).flatten.Nodup := by
  unfold List.Nodup
  rw [List.pairwise_flatten]
  refine ⟨fun l hl => ?_, ?_⟩
  · obtain ⟨i, _, _, rfl⟩ := clu_mem hl
    exact (memb_pair _ _).imp (fun h => by omega)
  · unfold cluU
    rw [List.pairwise_map]
    have hp : ((List.range n).filter (isL (connB adj n))).Pairwise (· < ·) := List.pairwise_lt_range.filter _
    refine List.Pairwise.imp_of_mem ?_ hp
    intro i j hi hj hij x hx y hy e
    subst e
    obtain ⟨a, e1, _, h1⟩ := memb_mem.1 hx
    obtain ⟨b, e2, _, h2⟩ := memb_mem.1 hy
    obtain rfl : a = b := by omega
    have hc := (connB_iff.1 h1).trans ((connB_iff.1 h2).symm hs)
    have := List.all_eq_true.1 (List.mem_filter.1 hj).2 i (List.mem_range.2 hij)
    rw [connB_iff.2 hc] at this
    cases this
theorem clu_flat : sortI (cluU (connB adj n) n n).flatten = memb (fun _ => true) n :=
  asc_ext (sortI_asc (clu_nodup hs)) (memb_pair _ _) fun x => by
    rw [(sortI_perm _).mem_iff, memb_mem, List.mem_flatten]
    constructor
    · rintro ⟨l, hl, hx⟩
      obtain ⟨i, _, _, rfl⟩ := clu_mem hl
      obtain ⟨j, e, hj, _⟩ := memb_mem.1 hx
      exact ⟨j, e, hj, rfl⟩
    · rintro ⟨j, rfl, hj, _⟩
      exact clu_has hs hj
theorem clu_flat_len : (cluU (connB adj n) n n).flatten.length ≤ n := by
  rw [← (sortI_perm _).length_eq, clu_flat hs]
  exact memb_len _ _
end
theorem conn_mono {adj adj' : Nat → Nat → Bool} {n i j : Nat} (h : ∀ a b, adj a b = true → adj' a b = true) (hc : Conn adj n i j) : Conn adj' n i j := by
  induction hc with
  | refl h => exact .refl h
  | step _ hk ha ih => exact .step ih hk (h _ _ ha)
theorem clu_one {adj : Nat → Nat → Bool} {n : Nat} (hn : 0 < n) (h : ∀ i j, i < n → j < n → adj i j = true) : (cluU (connB adj n) n n).length = 1 := by
  have e : (List.range n).filter (isL (connB adj n)) = [0] := by
    have h0 : isL (connB adj n) 0 = true := rfl
    obtain ⟨m, rfl⟩ : ∃ m, n = m + 1 := ⟨n - 1, by omega⟩
    rw [List.range_succ_eq_map, List.filter_cons, if_pos h0, List.filter_eq_nil_iff.2]
    intro a ha
    obtain ⟨b, hb, rfl⟩ := List.mem_map.1 ha
    have hb' := List.mem_range.1 hb
    intro hl
    have := List.all_eq_true.1 hl 0 (List.mem_range.2 (by omega))
    rw [connB_iff.2 (Conn.one (by omega) (by omega) (h 0 (b + 1) (by omega) (by omega)))] at this
    cases this
  unfold cluU
  rw [e]
  rfl

end Go.Proofs.Ytbcnbchpcbglhaa
