/-
  Variant graphs: the columns of a collation as the plain laws want them.
-/
import Derived.Test.YtjmebijckcimoaaGreatDoorVg
import Derived.Test.YtjmebijckcimoaaGreatDoorCn24
import Derived.Test.YtjmebijckcimoaaGreatDoorPp24
namespace Go.Ap
def optK (x : Coll) (k : Nat) : List (Option Str) := (List.range x.sigla.length).map (cellO x k)
def optC (x : Coll) : List (List (Option Str)) := (List.range x.columns.length).map (optK x)
theorem optK_len (x : Coll) (k : Nat) : (optK x k).length = x.sigla.length := by simp [optK]
theorem optK_at {x : Coll} {k s : Nat} (hs : s < x.sigla.length) : (optK x k)[s]? = some (cellO x k s) := by
  unfold optK
  rw [List.getElem?_map, List.getElem?_range hs]
  rfl
theorem optC_len (x : Coll) : (optC x).length = x.columns.length := by simp [optC]
theorem optC_at {x : Coll} {k : Nat} (hk : k < x.columns.length) : (optC x)[k]? = some (optK x k) := by
  unfold optC
  rw [List.getElem?_map, List.getElem?_range hk]
  rfl
theorem optC_row {x : Coll} : ∀ c ∈ optC x, c.length = x.sigla.length := fun c hc => by
  unfold optC at hc
  obtain ⟨k, _, rfl⟩ := List.mem_map.1 hc
  exact optK_len x k
theorem fold_le {α : Type} [DecidableEq α] : ∀ (c : List (Option α)) (r : List α), (c.foldl Vg.addN r).length ≤ r.length + c.length
  | [], r => by simp
  | x :: c, r => by
    have := fold_le c (Vg.addN r x)
    have h2 : (Vg.addN r x).length ≤ r.length + 1 := by
      unfold Vg.addN
      split
      · omega
      · split
        · omega
        · simp
    rw [List.foldl_cons, List.length_cons]
    omega
theorem colN_le {α : Type} [DecidableEq α] (c : List (Option α)) : (Vg.colN c).length ≤ c.length := by
  have := fold_le c []
  simpa [Vg.colN] using this
theorem nodes_le {α : Type} [DecidableEq α] : ∀ (cs : List (List (Option α))) (n : Nat), (∀ c ∈ cs, c.length = n) → (Vg.nodesL cs).length ≤ cs.length * n
  | [], n, _ => by simp [Vg.nodesL]
  | c :: cs, n, h => by
    have h1 := nodes_le cs n fun d hd => h d (List.mem_cons_of_mem _ hd)
    have h2 := colN_le c
    rw [h c (List.mem_cons_self ..)] at h2
    have h3 : Vg.nodesL (c :: cs) = Vg.colN c ++ Vg.nodesL cs := rfl
    rw [h3, List.length_append, List.length_cons, Nat.succ_mul]
    omega
theorem sameC_map {ι : Type} (F G : ι → List (Option Str)) : ∀ l : List ι, (∀ k ∈ l, ∀ t, some t ∈ F k ↔ some t ∈ G k) → Vg.SameC (l.map F) (l.map G)
  | [], _ => trivial
  | k :: l, h => ⟨h k (List.mem_cons_self ..), sameC_map F G l fun j hj => h j (List.mem_cons_of_mem _ hj)⟩
theorem sameAt_map {ι : Type} (F G : ι → List (Option Str)) (s s' : Nat) : ∀ l : List ι, (∀ k ∈ l, (F k)[s]? = (G k)[s']?) → Vg.SameAt s s' (l.map F) (l.map G)
  | [], _ => trivial
  | k :: l, h => ⟨h k (List.mem_cons_self ..), sameAt_map F G s s' l fun j hj => h j (List.mem_cons_of_mem _ hj)⟩
section
variable {x : Coll} {f : Nat → Nat}
theorem reo_cols (x : Coll) (f : Nat → Nat) : (reoC x f).columns.length = x.columns.length := by unfold reoC; simp
theorem reo_optK (hv : Val x) (hf : Inv x.sigla.length f) {k s : Nat} (hs : s < x.sigla.length) : (optK (reoC x f) k)[s]? = (optK x k)[f s]? := by
  rw [optK_at (by rw [reo_sig hf]; exact hs), optK_at (hf.lt s hs), reo_cell hv hf hs]
theorem reo_same (hv : Val x) (hf : Inv x.sigla.length f) : Vg.SameC (optC x) (optC (reoC x f)) := by
  unfold optC
  rw [reo_cols]
  refine sameC_map _ _ _ fun k _ t => ?_
  constructor
  · intro h
    obtain ⟨s, hs⟩ := List.getElem?_of_mem h
    have hl : s < x.sigla.length := by have := (List.getElem?_eq_some_iff.1 hs).1; rwa [optK_len] at this
    have := reo_optK (k := k) hv hf (hf.lt s hl)
    rw [hf.inv, hs] at this
    exact List.mem_of_getElem? this
  · intro h
    obtain ⟨s, hs⟩ := List.getElem?_of_mem h
    have hl : s < x.sigla.length := by have := (List.getElem?_eq_some_iff.1 hs).1; rwa [optK_len, reo_sig hf] at this
    have := reo_optK (k := k) hv hf hl
    rw [hs] at this
    exact List.mem_of_getElem? this.symm
theorem reo_at1 (hv : Val x) (hf : Inv x.sigla.length f) {s : Nat} (hs : s < x.sigla.length) : Vg.SameAt s (f s) (optC x) (optC (reoC x f)) := by
  unfold optC
  rw [reo_cols]
  refine sameAt_map _ _ _ _ _ fun k _ => ?_
  have := reo_optK (k := k) hv hf (hf.lt s hs)
  rw [hf.inv] at this
  exact this.symm
theorem reo_at2 (hv : Val x) (hf : Inv x.sigla.length f) {s : Nat} (hs : s < x.sigla.length) : Vg.SameAt s (f s) (optC (reoC x f)) (optC x) := by
  unfold optC
  rw [reo_cols]
  exact sameAt_map _ _ _ _ _ fun k _ => reo_optK hv hf hs
end
end Go.Ap
