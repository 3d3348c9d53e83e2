/-
  Variant graphs: the columns of a collation as the plain laws want them.
-/
import Derived.Test.YtjmebijckcimoaaGreatDoorVg
import Derived.Test.YtjmebijckcimoaaGreatDoorCn24
import Derived.Test.YtjmebijckcimoaaGreatDoorPp24
namespace Go.Ap
def optK (x : Coll) (k : Nat) : List (Option Str) := (List.range x.sigla.length).map (cellO x k)
def optC (x : Coll) : List (List (Option Str)) := (List.range x.columns.length).map (optK x)
theorem optK_len (x : Coll) (k : Nat) : (optK x k).length = x.sigla.length := by simp [optK]
theorem optK_at {x : Coll} {k s : Nat} (hs : s < x.sigla.length) : (optK x k)[s]? = some (cellO x k s) := by
  unfold optK
  rw [List.getElem?_map, List.getElem?_range hs]
  rfl
theorem optC_len (x : Coll) : (optC x).length = x.columns.length := by simp [optC]
theorem optC_at {x : Coll} {k : Nat} (hk : k < x.columns.length) : (optC x)[k]? = some (optK x k) := by
  unfold optC
  rw [List.getElem?_map, List.getElem?_range hk]
  rfl
theorem optC_row {x : Coll} : ∀ c ∈ optC x, c.length = x.sigla.length := fun c hc => by
  unfold optC at hc
  obtain ⟨k, _, rfl⟩ := List.mem_map.1 hc
  exact optK_len x k
theorem fold_le {α : Type} [DecidableEq α] : ∀ (c : List (Option α)) (r : List α), (c.foldl Vg.addN r).length ≤ r.length + c.length
  | [], r => by simp
  | x :: c, r => by
    have := fold_le c (Vg.addN r x)
    have h2 : (Vg.addN r x).length ≤ r.length + 1 := by
      unfold Vg.addN
      split
      · omega
      · split
        · omega
        · simp
    rw [List.foldl_cons, List.length_cons]
    omega
theorem colN_le {α : Type} [DecidableEq α] (c : List (Option α)) : (Vg.colN c).length ≤ c.length := by
  have := fold_le c []
  simpa [Vg.colN] using this
theorem nodes_le {α : Type} [DecidableEq α] : ∀ (cs : List (List (Option α))) (n : Nat), (∀ c ∈ cs, c.length = n) → (Vg.nodesL cs).length ≤ cs.length * n
  | [], n, _ => by simp [Vg.nodesL]
  | c :: cs, n, h => by
    have h1 := nodes_le cs n fun d hd => h d (List.mem_cons_of_mem _ hd)
    have h2 := colN_le c
    rw [h c (List.mem_cons_self ..)] at h2
    have h3 : Vg.nodesL (c :: cs) = Vg.colN c ++ Vg.nodesL cs := rfl
    rw [h3, List.length_append, List.length_cons, Nat.succ_mul]
    omega
section
variable {x : Coll} {f : Nat → Nat}
end
end Go.Ap
