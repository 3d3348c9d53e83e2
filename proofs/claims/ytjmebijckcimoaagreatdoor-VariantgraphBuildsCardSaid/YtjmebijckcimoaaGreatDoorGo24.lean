/-
  The graph of a valid collation is valid, and small.
-/
import Derived.Test.YtjmebijckcimoaaGreatDoorGl24
import Derived.Test.YtjmebijckcimoaaGreatDoorBl
import Derived.Test.YtjmebijckcimoaaGreatDoorSp
namespace Go.Ap
open Go Go.RowKit
theorem addF_len {κ : Type} (c : κ → κ → Int) : ∀ (l : List (κ × List Int)) (h : κ) (n : Int), (addF c l h n).length ≤ l.length + 1
  | [], _, _ => by simp [addF]
  | p :: r, h, n => by
    unfold addF
    split
    · have := addF_len c r h n
      simp only [List.length_cons]
      omega
    · split
      · simp
      · simp
theorem idxE_len (es : List (Vg.En × Int)) : (Vg.idxE es).length ≤ es.length := by
  unfold Vg.idxE
  have key : ∀ (es : List (Vg.En × Int)) (l : List Vg.Arc), (es.foldl (fun l x => addF Vg.cE l x.1 x.2) l).length ≤ l.length + es.length := fun es => by
    induction es with
    | nil => intro l; simp
    | cons e r ih =>
      intro l
      rw [List.foldl_cons, List.length_cons]
      have h1 := ih (addF Vg.cE l e.1 e.2)
      have h2 := addF_len Vg.cE l e.1 e.2
      omega
  have := key es []
  simpa using this
/-- how many sources in all arcs -/
theorem idxE_allS (es : List (Vg.En × Int)) {n : Nat} (h : ∀ x ∈ es, 0 ≤ x.2 ∧ x.2 < (n : Int)) : (allS (Vg.idxE es)).length ≤ es.length * n := by
  have hI := Vg.idxE_is es
  have hl := idxE_len es
  have hsmall : ∀ a ∈ Vg.idxE es, a.2.length ≤ n := fun a ha => by
    have hasc := hI.lines a ha
    have hr : ∀ s ∈ a.2, 0 ≤ s ∧ s < (n : Int) := fun s hs => h (a.1, s) ((hI.all a.1 s).2 ⟨a, ha, rfl, hs⟩)
    have key : ∀ (l : List Int) (k : Nat), l.Pairwise (· < ·) → (∀ s ∈ l, (k : Int) ≤ s ∧ s < (n : Int)) → l.length + k ≤ n ∨ l = [] := fun l => by
      induction l with
      | nil => intro _ _ _; exact .inr rfl
      | cons x r ih =>
        intro k hp hk
        have hx := hk x List.mem_cons_self
        rw [List.pairwise_cons] at hp
        left
        rcases ih (x.toNat + 1) hp.2 (fun s hs => ⟨by have := hp.1 s hs; omega, (hk s (List.mem_cons_of_mem _ hs)).2⟩) with h1 | h1
        · rw [List.length_cons]; omega
        · subst h1; simp only [List.length_cons, List.length_nil]; omega
    rcases key a.2 0 hasc (fun s hs => by have := hr s hs; exact ⟨by omega, this.2⟩) with h1 | h1
    · omega
    · rw [h1]; simp
  have key2 : ∀ l : List Vg.Arc, (∀ a ∈ l, a.2.length ≤ n) → (allS l).length ≤ l.length * n := fun l => by
    induction l with
    | nil => intro _; simp [allS]
    | cons a r ih =>
      intro h
      have h1 := h a List.mem_cons_self
      have h2 := ih fun x hx => h x (List.mem_cons_of_mem _ hx)
      unfold allS at h2 ⊢
      rw [List.flatMap_cons, List.length_append, List.length_cons, Nat.succ_mul]
      omega
  exact Nat.le_trans (key2 _ hsmall) (Nat.mul_le_mul_right n hl)
theorem accW_lim {e : Int} {al : List Vg.Arc} {ws : Int → Str} {m : Nat} (hm : ∀ k, (ws k).length ≤ m) : ∀ (k : Nat) (x : Int), (Vg.accW [32] e al ws k x).length ≤ m + min k e.toNat * (m + 1)
  | 0, x => by have := hm x; unfold Vg.accW; omega
  | k + 1, x => by
    have ih := accW_lim (e := e) (al := al) hm k x
    unfold Vg.accW
    split
    · rename_i h
      have hk : k < e.toNat := by
        cases hp : Vg.pre e al (k : Int) with
        | none => exact absurd hp h.2
        | some j =>
          obtain ⟨a, _, hs, ha⟩ := Vg.pre_some.1 hp
          have := hs.2.1
          rw [ha] at this
          simp only at this
          omega
      have h1 := hm k
      rw [Nat.min_eq_left (by omega : k ≤ e.toNat)] at ih
      rw [Nat.min_eq_left (by omega : k + 1 ≤ e.toNat), Nat.succ_mul, List.length_append, List.length_append]
      simp only [List.length_cons, List.length_nil]
      omega
    · have : min k e.toNat * (m + 1) ≤ min (k + 1) e.toNat * (m + 1) := Nat.mul_le_mul_right _ (by omega)
      omega
theorem getD_len {ws : List Str} {m : Nat} (h : ∀ u ∈ ws, u.length ≤ m) (k : Nat) : (ws.getD k []).length ≤ m := by
  rw [List.getD_eq_getElem?_getD]
  cases hk : ws[k]? with
  | none => simp
  | some u => exact h u (List.mem_of_getElem? hk)
/-- the words of a contracted graph stay short -/
theorem accW_small {al : List Vg.Arc} {ws : List Str} {n m : Nat} (h : ∀ u ∈ ws, u.length ≤ m) (hn : ws.length ≤ n) (k : Nat) (x : Int) : (Vg.accW [32] ((ws.length : Int) - 1) al (fun k => ws.getD k.toNat []) k x).length ≤ m + n * (m + 1) := by
  have h1 := accW_lim (e := (ws.length : Int) - 1) (al := al) (ws := fun k => ws.getD k.toNat []) (m := m) (fun k => getD_len h k.toNat) k x
  have h2 : min k ((ws.length : Int) - 1).toNat * (m + 1) ≤ n * (m + 1) := Nat.mul_le_mul_right _ (by omega)
  omega
end Go.Ap
namespace Go.Proofs.YtjmebijckcimoaaGreatDoor
open Go.RowKit Go.Ap Go.Shelf Go.Proofs
theorem wordsL_len {cs : List (List (Option Str))} : (Vg.wordsL [] cs).length = (Vg.nodesL cs).length + 2 := by
  unfold Vg.wordsL
  simp
theorem wordsL_end {cs : List (List (Option Str))} : ((Vg.wordsL [] cs).length : Int) - 1 = Vg.endN cs := by
  rw [wordsL_len]
  unfold Vg.endN
  omega
theorem nodes_ne {x : Coll} (hv : Val x) : ∀ t ∈ Vg.nodesL (optC x), t ≠ [] := fun t ht => by
  unfold Vg.nodesL at ht
  obtain ⟨c, hc, hm⟩ := List.mem_flatMap.1 ht
  rw [Vg.colN_mem] at hm
  unfold optC at hc
  obtain ⟨k, _, rfl⟩ := List.mem_map.1 hc
  unfold optK at hm
  obtain ⟨s, _, hs⟩ := List.mem_map.1 hm
  exact cell_ne hv hs
theorem words_ok {x : Coll} (hv : Val x) : Vg.wordsOk (Vg.wordsL [] (optC x)) := fun i hi => by
  have hl := wordsL_len (cs := optC x)
  obtain ⟨n, hn⟩ : ∃ n, (Vg.nodesL (optC x)).length = n := ⟨_, rfl⟩
  rw [hn] at hl
  have hget : (Vg.wordsL [] (optC x))[i]? = some (Vg.wordsL [] (optC x))[i] := List.getElem?_eq_getElem hi
  by_cases h0 : i = 0
  · subst h0
    exact ⟨fun _ => .inl rfl, fun _ => rfl⟩
  · by_cases hlast : i = n + 1
    · subst hlast
      refine ⟨fun _ => .inr (by omega), fun _ => ?_⟩
      unfold Vg.wordsL at hget
      rw [List.getElem?_cons_succ, List.getElem?_append_right (by omega), hn, Nat.sub_self] at hget
      simp at hget
      unfold Vg.wordsL
      exact hget
    · obtain ⟨j, rfl⟩ : ∃ j, i = 1 + j := ⟨i - 1, by omega⟩
      rw [Vg.wordsL_at [] (optC x) (by omega)] at hget
      refine ⟨fun e => absurd e (nodes_ne hv _ (List.mem_of_getElem? hget)), fun e => by omega⟩
theorem steps_small {x : Coll} (hv : Val x) (h24 : x.columns.length ≤ 24) : (Vg.stepsP (Vg.pathsC (optC x) x.sigla.length)).length ≤ 900 := by
  have hl : (Vg.pathsC (optC x) x.sigla.length).length = x.sigla.length := by simp [Vg.pathsC]
  rw [← Vg.stepsN_all, hl]
  have h1 := Vg.stepsN_len (ps := Vg.pathsC (optC x) x.sigla.length) (m := x.columns.length + 1) (fun l hl => by
    unfold Vg.pathsC at hl
    obtain ⟨s, _, rfl⟩ := List.mem_map.1 hl
    have := fullP_len (optC x) s
    rw [optC_len] at this
    omega) x.sigla.length 0
  have h2 : x.sigla.length * (x.columns.length + 1) ≤ 32 * 25 := Nat.mul_le_mul hv.le (by omega)
  omega
theorem arcsG_src {x : Coll} (hv : Val x) : ∀ a ∈ Vg.arcsG (optC x) x.sigla.length, ∀ s ∈ a.2, 0 ≤ s ∧ s < 32 := fun a ha s hs => by
  obtain ⟨i, rfl, hi⟩ := (Vg.arcsG_goes (cs := optC x) (n := x.sigla.length) s).1 ⟨a, ha, hs⟩
  have := hv.le
  omega
theorem graph_ok {x : Coll} (hv : Val x) (h24 : x.columns.length ≤ 24) : Vg.chkG (Vg.wordsL [] (optC x)) (Vg.arcsG (optC x) x.sigla.length) = 0 := by
  have hn := nodes_le (optC x) x.sigla.length optC_row
  rw [optC_len] at hn
  have h2 : x.columns.length * x.sigla.length ≤ 24 * 32 := Nat.mul_le_mul h24 hv.le
  have hl := wordsL_len (cs := optC x)
  have hs := steps_small hv h24
  have ha : (Vg.arcsG (optC x) x.sigla.length).length ≤ (Vg.stepsP (Vg.pathsC (optC x) x.sigla.length)).length := idxE_len _
  exact Vg.chkG_zero.2 ⟨by omega, by omega, by omega, words_ok hv, by rw [wordsL_end]; exact Vg.arcsG_valid optC_row, arcsG_src hv⟩
theorem graph_len {x : Coll} (hv : Val x) (h24 : x.columns.length ≤ 24) : (Vg.wordsL [] (optC x)).length ≤ 1000 ∧ (Vg.arcsG (optC x) x.sigla.length).length ≤ 900 ∧ (allS (Vg.arcsG (optC x) x.sigla.length)).length ≤ 30000 := by
  have hn := nodes_le (optC x) x.sigla.length optC_row
  rw [optC_len] at hn
  have h2 : x.columns.length * x.sigla.length ≤ 24 * 32 := Nat.mul_le_mul h24 hv.le
  have hl := wordsL_len (cs := optC x)
  have hs := steps_small hv h24
  have ha : (Vg.arcsG (optC x) x.sigla.length).length ≤ (Vg.stepsP (Vg.pathsC (optC x) x.sigla.length)).length := idxE_len _
  refine ⟨by omega, by omega, ?_⟩
  have h3 := idxE_allS (Vg.stepsP (Vg.pathsC (optC x) x.sigla.length)) (n := 32) fun y hy => by
    obtain ⟨i, l, h4, h5, _⟩ := Vg.stepsP_mem.1 (show ((y.1, y.2) : Vg.En × Int) ∈ _ from hy)
    have h6 := (List.getElem?_eq_some_iff.1 h5).1
    have h7 : (Vg.pathsC (optC x) x.sigla.length).length = x.sigla.length := by simp [Vg.pathsC]
    have := hv.le
    omega
  exact Nat.le_trans h3 (by omega)
end Go.Proofs.YtjmebijckcimoaaGreatDoor
