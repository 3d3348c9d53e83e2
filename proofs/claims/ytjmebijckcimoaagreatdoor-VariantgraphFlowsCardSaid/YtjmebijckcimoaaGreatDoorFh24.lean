/-
  What enters and leaves the nodes of a valid graph (law Flows): the plain part, and the sort in place of one of two rows.
-/
import Derived.Test.YtjmebijckcimoaaGreatDoorCg
import Derived.Test.YtjmebijckcimoaaGreatDoorGd24
import Derived.Test.YtjmebijckcimoaaGreatDoorEq
namespace Go.Ap
open Go Go.RowKit
theorem sorted_eq {l m : List Int} (h : l.Perm m) : sortI l = sortI m :=
  List.Perm.eq_of_pairwise (le := (· ≤ ·)) (fun _ _ _ _ h1 h2 => Int.le_antisymm h1 h2) (sortI_asc l) (sortI_asc m) (((sortI_perm l).trans h).trans (sortI_perm m).symm)
theorem sorted_self {l m : List Int} (h : l.Perm m) (hm : m.Pairwise (· < ·)) : sortI l = m :=
  List.Perm.eq_of_pairwise (le := (· ≤ ·)) (fun _ _ _ _ h1 h2 => Int.le_antisymm h1 h2) (sortI_asc l) (hm.imp fun h => Int.le_of_lt h) ((sortI_perm l).trans h)
theorem inL_snoc (l : List Vg.Arc) (x : Vg.Arc) (k : Int) : Vg.inL (l ++ [x]) k = Vg.inL l k ++ if x.1.2 = k then x.2 else [] := by
  unfold Vg.inL
  rw [List.filter_append, List.flatMap_append]
  by_cases h : x.1.2 = k
  · simp [h]
  · simp [h]
theorem outL_snoc (l : List Vg.Arc) (x : Vg.Arc) (k : Int) : Vg.outL (l ++ [x]) k = Vg.outL l k ++ if x.1.1 = k then x.2 else [] := by
  unfold Vg.outL
  rw [List.filter_append, List.flatMap_append]
  by_cases h : x.1.1 = k
  · simp [h]
  · simp [h]
theorem inL_len (l : List Vg.Arc) (k : Int) : (Vg.inL l k).length ≤ (allS l).length := by
  unfold Vg.inL allS
  induction l with
  | nil => simp
  | cons a r ih =>
    rw [List.filter_cons, List.flatMap_cons, List.length_append]
    split
    · rw [List.flatMap_cons, List.length_append]; omega
    · omega
theorem outL_len (l : List Vg.Arc) (k : Int) : (Vg.outL l k).length ≤ (allS l).length := by
  unfold Vg.outL allS
  induction l with
  | nil => simp
  | cons a r ih =>
    rw [List.filter_cons, List.flatMap_cons, List.length_append]
    split
    · rw [List.flatMap_cons, List.length_append]; omega
    · omega
theorem allS_small : ∀ {al : List Vg.Arc} {m : Nat}, (∀ a ∈ al, a.2.length ≤ m) → (allS al).length ≤ al.length * m
  | [], m, _ => by simp [allS]
  | a :: r, m, h => by
    have h1 := h a (List.mem_cons_self)
    have h2 := allS_small (al := r) (m := m) fun x hx => h x (List.mem_cons_of_mem _ hx)
    unfold allS at h2 ⊢
    rw [List.flatMap_cons, List.length_append, List.length_cons, Nat.succ_mul]
    omega
/-- one of two rows grows -/
theorem two_grow {w w' : World} {base : Nat} {e : TypeId} {u v u' : Value} {ys : List Int} (hv : OwnI e w base v ys) (ha : Apart u v) (hg : w.grownBy w' u.ownBlock) (hat : u'.ownBlock = u.ownBlock ∨ u'.ownBlock = some w.heap.size) :
    OwnI e w' base v ys ∧ Apart u' v := by
  refine ⟨hv.kept hg (apart_symm ha), ?_⟩
  unfold Apart at ha ⊢
  rcases hat with h | h
  · rw [h]; exact ha
  · rw [h]
    refine .inr fun e => ?_
    have := own_lt hv.1 e.symm
    omega
end Go.Ap
namespace Go.Proofs.YtjmebijckcimoaaGreatDoor
open Go.RowKit Go.Ap Go.Shelf Go.Proofs Go.Sort
theorem sortOwnG (base : Nat) (v : Value) (xs : List Int) (w : World) (ho : OwnI 3 w base v xs) (hl : xs.length ≤ 1000000) :
    ∃ a c, v = .slice a xs.length c ∧ Calls Tryz.prog 24 #[.slice a xs.length c] w fun e w' => e = .returned (.tuple #[]) ∧ OwnI 3 w' base v (Go.Ap.sortI xs) ∧ w.grownBy w' v.ownBlock := by
  by_cases h0 : xs = []
  · subst h0
    obtain ⟨a, c, rfl, _⟩ := ho.ints (by simp)
    refine ⟨a, c, rfl, (Tryz.slices_Sort_int_none a c w).mono ?_⟩
    rintro e w' ⟨rfl, rfl⟩
    exact ⟨rfl, by simpa [Go.Ap.sortI] using ho, rfl, rfl, rfl, Nat.le_refl _, fun _ _ _ => rfl⟩
  · exact sortG base v xs w ho hl h0
end Go.Proofs.YtjmebijckcimoaaGreatDoor
