/-
  slices.Clone of blocks and of tokens of the call's own; one element less, one by one.
-/
import Derived.Test.YtbahddjbncinbaaGreatDoorDl
import Derived.Test.YtbahddjbncinbaaGreatDoorShb
namespace Go.Ap
open Go Go.RowKit
section
variable {α : Type} {f : α → List Value} {m : Nat}
theorem flat_len (hf : ∀ x, (f x).length = m) (xs : List α) : (xs.flatMap f).length = xs.length * m := by
  induction xs with
  | nil => simp
  | cons x r ih => rw [List.flatMap_cons, List.length_append, hf, ih, List.length_cons, Nat.succ_mul, Nat.add_comm]
theorem flat_take (hf : ∀ x, (f x).length = m) : ∀ (xs : List α) (i : Nat), (xs.flatMap f).take (i * m) = (xs.take i).flatMap f
  | [], i => by simp
  | x :: r, 0 => by simp
  | x :: r, i + 1 => by
    rw [List.flatMap_cons, List.take_succ_cons, List.flatMap_cons, List.take_append, hf, Nat.succ_mul, Nat.add_sub_cancel, flat_take hf r i]
    congr 1
    exact List.take_of_length_le (by rw [hf]; omega)
theorem flat_drop (hf : ∀ x, (f x).length = m) : ∀ (xs : List α) (i : Nat), (xs.flatMap f).drop (i * m) = (xs.drop i).flatMap f
  | [], i => by simp
  | x :: r, 0 => by simp
  | x :: r, i + 1 => by
    rw [List.flatMap_cons, List.drop_succ_cons, List.drop_append, hf, Nat.succ_mul, Nat.add_sub_cancel, flat_drop hf r i, List.drop_of_length_le (by rw [hf]; omega), List.nil_append]
theorem flat_erase (hf : ∀ x, (f x).length = m) (xs : List α) (i : Nat) : (xs.flatMap f).take (i * m) ++ (xs.flatMap f).drop ((i + 1) * m) = (xs.eraseIdx i).flatMap f := by
  rw [flat_take hf, flat_drop hf, ← List.flatMap_append, List.eraseIdx_eq_take_drop_succ]
theorem flat_one (h1 : ∀ x, ∀ u ∈ f x, u.oneCell' = true) (xs : List α) : ∀ u ∈ xs.flatMap f, u.oneCell' = true := fun u hu => by
  obtain ⟨x, _, hx⟩ := List.mem_flatMap.1 hu
  exact h1 x u hx
end
theorem blkC_len (x : Blk) : (blkC x).length = 3 := rfl
theorem tokC_len (t : Tok) : (tokC6 t).length = 6 := rfl
theorem blkC_one (x : Blk) : ∀ u ∈ blkC x, u.oneCell' = true := List.all_eq_true.1 (rfl : (blkC x).all Value.oneCell' = true)
theorem tokC_one (t : Tok) : ∀ u ∈ tokC6 t, u.oneCell' = true := List.all_eq_true.1 (rfl : (tokC6 t).all Value.oneCell' = true)
/-- a row of the call's own that is not empty: its block -/
theorem owns_block {w : World} {base n size : Nat} {e : TypeId} {v : Value} {xs : List Value} (h : w.ownsRow base e size v n xs) (hn : 0 < n) : ∃ g cap, v = .slice (some ⟨g, 0, none⟩) n cap ∧ n ≤ cap ∧ cap ≤ maxLen ∧ (∀ j u, xs[j]? = some u → w.cell? ⟨g, j, none⟩ = some u) := by
  have h0 := h
  rcases h.2 with ⟨_, h1⟩ | ⟨g, cap, cur, rfl, _, hg, hnc, hcm, _⟩
  · omega
  · refine ⟨g, cap, rfl, hnc, hcm, fun j u hu => ?_⟩
    have := h0.cells (g := g) rfl j u hu
    have hadd : (⟨g, 0, none⟩ : Addr).add j = ⟨g, j, none⟩ := by unfold Addr.add; split <;> simp_all
    rwa [hadd] at this
end Go.Ap
namespace Go.Proofs.YtbahddjbncinbaaGreatDoor
open Go.RowKit Go.Ap Go.Shelf Go.Proofs
theorem cloneBk (w : World) (base : Nat) (v : Value) (K : List Blk) (h : OwnB w base v K) (hn : 0 < K.length) (hs : K.length ≤ 1024) :
    Calls Tryz.prog 39 #[v] w fun e w' => ∃ g cap, e = .returned (.slice (some ⟨g, 0, none⟩) K.length cap) ∧ OwnB w' w.heap.size (.slice (some ⟨g, 0, none⟩) K.length cap) K ∧ Below w.heap.size w w' := by
  obtain ⟨i0, hi0, hz0, hz1, hz2⟩ := info_parts infoBk
  obtain ⟨g, cap, rfl, _, _, hc⟩ := owns_block h hn
  refine (AnyE.slices_Clone Tryz.laysClone39 i0 (.agg #[.int .i64 0, .int .i64 0, .int .i64 0]) 3 24 hi0 hz0 hz1 hz2 rfl (by decide) (fun w => Tryz.sizeOf54 w) g 0 K.length cap (K.flatMap blkC) w (flat_len blkC_len K) (by unfold maxLen; omega) (by omega) (fun j u hu => by rw [Nat.zero_add]; exact hc j u hu) (flat_one blkC_one K)).mono fun e w' ⟨v', he, ho, _, hb⟩ => ?_
  obtain ⟨g', cap', rfl, _, _, _⟩ := owns_block ho hn
  exact ⟨g', cap', he, ho, hb⟩
theorem cloneTk (w : World) (base : Nat) (v : Value) (K : List Tok) (h : OwnTk w base v K) (hn : 0 < K.length) (hs : K.length ≤ 1024) :
    Calls Tryz.prog 41 #[v] w fun e w' => ∃ g cap, e = .returned (.slice (some ⟨g, 0, none⟩) K.length cap) ∧ OwnTk w' w.heap.size (.slice (some ⟨g, 0, none⟩) K.length cap) K ∧ Below w.heap.size w w' := by
  obtain ⟨i0, hi0, hz0, hz1, hz2⟩ := info_parts infoTok
  obtain ⟨g, cap, rfl, _, _, hc⟩ := owns_block h hn
  refine (AnyE.slices_Clone Tryz.laysClone41 i0 (.agg #[.string { data := #[] }, .string { data := #[] }, .string { data := #[] }, .int .i64 0, .int .i64 0, .string { data := #[] }]) 6 80 hi0 hz0 hz1 hz2 rfl (by decide) (fun w => Tryz.sizeOf39 w) g 0 K.length cap (K.flatMap tokC6) w (flat_len tokC_len K) (by unfold maxLen; omega) (by omega) (fun j u hu => by rw [Nat.zero_add]; exact hc j u hu) (flat_one tokC_one K)).mono fun e w' ⟨v', he, ho, _, hb⟩ => ?_
  obtain ⟨g', cap', rfl, _, _, _⟩ := owns_block ho hn
  exact ⟨g', cap', he, ho, hb⟩
/-- one block less -/
theorem lessBk (w : World) (base g n cap i j : Nat) (K : List Blk) (h : OwnB w base (.slice (some ⟨g, 0, none⟩) n cap) K) (hk : K.length = n) (hi : i < n) (hj : j = i + 1) :
    Calls Tryz.prog 38 #[.slice (some ⟨g, 0, none⟩) n cap, .int .i64 i, .int .i64 j] w fun e w' => e = .returned (.slice (some ⟨g, 0, none⟩) (n - 1) cap) ∧ OwnB w' base (.slice (some ⟨g, 0, none⟩) (n - 1) cap) (K.eraseIdx i) ∧ Below base w w' := by
  subst hk
  refine (delBk w base g K.length cap i j (K.flatMap blkC) h hi hj (flat_one blkC_one K)).mono fun e w' ⟨he, ho, hb⟩ => ⟨he, ?_, hb⟩
  unfold OwnB
  rw [List.length_eraseIdx, if_pos hi, ← flat_erase blkC_len]
  exact ho
theorem lessTk (w : World) (base g n cap i j : Nat) (K : List Tok) (h : OwnTk w base (.slice (some ⟨g, 0, none⟩) n cap) K) (hk : K.length = n) (hi : i < n) (hj : j = i + 1) :
    Calls Tryz.prog 40 #[.slice (some ⟨g, 0, none⟩) n cap, .int .i64 i, .int .i64 j] w fun e w' => e = .returned (.slice (some ⟨g, 0, none⟩) (n - 1) cap) ∧ OwnTk w' base (.slice (some ⟨g, 0, none⟩) (n - 1) cap) (K.eraseIdx i) ∧ Below base w w' := by
  subst hk
  refine (delTk w base g K.length cap i j (K.flatMap tokC6) h hi hj (flat_one tokC_one K)).mono fun e w' ⟨he, ho, hb⟩ => ⟨he, ?_, hb⟩
  unfold OwnTk
  rw [List.length_eraseIdx, if_pos hi, ← flat_erase tokC_len]
  exact ho
end Go.Proofs.YtbahddjbncinbaaGreatDoor
