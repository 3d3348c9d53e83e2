/-
  What enters and leaves the nodes of a valid graph (law Flows): the plain part, and the sort in place of one of two rows.
-/
import Derived.Test.YtjmebijckcimoaaGreatDoorCg
import Derived.Test.YtjmebijckcimoaaGreatDoorGd24
import Derived.Test.YtjmebijckcimoaaGreatDoorEq
namespace Go.Ap
open Go Go.RowKit
theorem allS_small : ∀ {al : List Vg.Arc} {m : Nat}, (∀ a ∈ al, a.2.length ≤ m) → (allS al).length ≤ al.length * m
  | [], m, _ => by simp [allS]
  | a :: r, m, h => by
    have h1 := h a (List.mem_cons_self)
    have h2 := allS_small (al := r) (m := m) fun x hx => h x (List.mem_cons_of_mem _ hx)
    unfold allS at h2 ⊢
    rw [List.flatMap_cons, List.length_append, List.length_cons, Nat.succ_mul]
    omega
end Go.Ap
namespace Go.Proofs.YtjmebijckcimoaaGreatDoor
open Go.RowKit Go.Ap Go.Shelf Go.Proofs Go.Sort
end Go.Proofs.YtjmebijckcimoaaGreatDoor
