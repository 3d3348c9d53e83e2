/-
  The greedy cover of the program.
-/
import Derived.Test.YtbahddjbncinbaaGreatDoorCv
namespace Go.Ap
open Go Go.RowKit
theorem idxG_cases (p : Nat → Bool) : ∀ f k, (idxG p f k = -1 ∧ ∀ j, k ≤ j → j < k + f → p j = false) ∨ ∃ i, k ≤ i ∧ i < k + f ∧ idxG p f k = (i : Int) ∧ p i = true ∧ ∀ j, k ≤ j → j < i → p j = false
  | 0, k => .inl ⟨rfl, fun j h1 h2 => by omega⟩
  | f + 1, k => by
    cases hp : p k
    · rw [idxG_no hp]
      rcases idxG_cases p f (k + 1) with ⟨h1, h2⟩ | ⟨i, h1, h2, h3, h4, h5⟩
      · refine .inl ⟨h1, fun j hj1 hj2 => ?_⟩
        by_cases hjk : j = k
        · subst hjk; exact hp
        · exact h2 j (by omega) (by omega)
      · refine .inr ⟨i, by omega, by omega, h3, h4, fun j hj1 hj2 => ?_⟩
        by_cases hjk : j = k
        · subst hjk; exact hp
        · exact h5 j (by omega) hj2
    · rw [idxG_yes hp]
      exact .inr ⟨k, Nat.le_refl _, by omega, rfl, hp, fun j h1 h2 => by omega⟩
theorem idxF_cases {α : Type} (p : α → Bool) (xs : List α) : (idxF p xs = -1 ∧ ∀ x ∈ xs, p x = false) ∨ ∃ i x, idxF p xs = ((i : Nat) : Int) ∧ i < xs.length ∧ xs[i]? = some x ∧ p x = true ∧ ∀ j y, j < i → xs[j]? = some y → p y = false := by
  rcases idxG_cases (pAt p xs) xs.length 0 with ⟨h1, h2⟩ | ⟨i, _, h2, h3, h4, h5⟩
  · refine .inl ⟨h1, fun x hx => ?_⟩
    obtain ⟨j, hj⟩ := List.getElem?_of_mem hx
    have := h2 j (Nat.zero_le _) (by have := (List.getElem?_eq_some_iff.1 hj).1; omega)
    simpa [pAt, hj] using this
  · refine .inr ⟨i, xs[i]'(by omega), h3, by omega, List.getElem?_eq_getElem _, ?_, fun j y hj hy => ?_⟩
    · simpa [pAt, List.getElem?_eq_getElem (show i < xs.length by omega)] using h4
    · have := h5 j (Nat.zero_le _) hj
      simpa [pAt, hy] using this
theorem OwnI.one {w : World} {base : Nat} (hw : base ≤ w.heap.size) (x : Int) (hx : I64 x) : OwnI 3 (w.alloc (.cells #[.int .i64 x] 3)) base (.slice (some ⟨w.heap.size, 0, none⟩) 1 1) [x] :=
  ⟨World.ownsRow_lit w #[.int .i64 x] 1 hw (by simp [maxLen]) rfl, fun y hy => by rw [List.mem_singleton.1 hy]; exact hx⟩
theorem fstF_none {p : Int → Bool} {l : List Int} (h : ∀ x ∈ l, p x = false) : fstF p l = l.length := by
  rcases Nat.lt_or_ge (fstF p l) l.length with hlt | hge
  · have := fstF_yes p l _ (List.getElem?_eq_getElem hlt)
    rw [h _ (List.getElem_mem hlt)] at this
    cases this
  · exact Nat.le_antisymm (fstF_le p l) hge
theorem fstF_some {p : Int → Bool} {l : List Int} {k : Nat} {x : Int} (hk : l[k]? = some x) (hp : p x = true) (hn : ∀ j y, j < k → l[j]? = some y → p y = false) : fstF p l = k := by
  rcases Nat.lt_trichotomy (fstF p l) k with hlt | he | hgt
  · have hl := (List.getElem?_eq_some_iff.1 hk).1
    have hy := List.getElem?_eq_getElem (show fstF p l < l.length by omega)
    have := fstF_yes p l _ hy
    rw [hn _ _ hlt hy] at this
    cases this
  · exact he
  · rw [fstF_no p l k x hgt hk] at hp
    cases hp
/-- the element under the last index of a list -/
def topV (l xs : List Int) : Int := nth l (xs.getLast?.getD 0).toNat
theorem topV_end (l ys : List Int) (j : Nat) : topV l (ys ++ [(j : Int)]) = nth l j := by simp [topV]
/-- while the cover grows: i elements are in the lists -/
structure CovR (l : List Int) (i : Nat) (xss : List (List Int)) : Prop where
  tops : (l.take i).foldl coverS [] = xss.map (topV l)
  rows : ∀ xs ∈ xss, ∃ (ys : List Int) (j : Nat), xs = ys ++ [(j : Int)] ∧ j < i
  num : xss.length ≤ i
  short : ∀ xs ∈ xss, xs.length ≤ i
theorem CovR.start (l : List Int) : CovR l 0 [] := ⟨rfl, fun _ h => by simp at h, Nat.le_refl _, fun _ h => by simp at h⟩
theorem CovR.fresh {l : List Int} {i : Nat} {xss : List (List Int)} {x : Int} (h : CovR l i xss) (hx : l[i]? = some x) (hn : ∀ xs ∈ xss, decide (topV l xs ≥ x) = false) : CovR l (i + 1) (xss ++ [[(i : Int)]]) := by
  have hf : fstF (fun t => decide (t ≥ x)) (xss.map (topV l)) = (xss.map (topV l)).length := fstF_none fun t ht => by
    obtain ⟨xs, hxs, rfl⟩ := List.mem_map.1 ht
    exact hn xs hxs
  refine ⟨?_, fun xs hxs => ?_, by simp; have := h.num; omega, fun xs hxs => ?_⟩
  · rw [List.take_add_one, hx, Option.toList_some, List.foldl_append, h.tops, List.foldl_cons, List.foldl_nil, List.map_append, List.map_singleton]
    unfold coverS
    rw [hf, List.take_length, List.drop_eq_nil_of_le (by omega)]
    have : topV l [(i : Int)] = x := by
      have := topV_end l [] i
      rw [List.nil_append] at this
      rw [this]
      simp [nth, hx]
    rw [this]
  · rcases List.mem_append.1 hxs with hxs | hxs
    · obtain ⟨ys, j, h1, h2⟩ := h.rows xs hxs
      exact ⟨ys, j, h1, by omega⟩
    · rw [List.mem_singleton.1 hxs]
      exact ⟨[], i, rfl, by omega⟩
  · rcases List.mem_append.1 hxs with hxs | hxs
    · have := h.short xs hxs; omega
    · rw [List.mem_singleton.1 hxs]; simp
theorem CovR.more {l : List Int} {i k : Nat} {xss : List (List Int)} {x : Int} {xs : List Int} (h : CovR l i xss) (hx : l[i]? = some x) (hk : xss[k]? = some xs) (hp : decide (topV l xs ≥ x) = true) (hn : ∀ j ys, j < k → xss[j]? = some ys → decide (topV l ys ≥ x) = false) : CovR l (i + 1) (xss.set k (xs ++ [(i : Int)])) := by
  have hkl := (List.getElem?_eq_some_iff.1 hk).1
  have hf : fstF (fun t => decide (t ≥ x)) (xss.map (topV l)) = k := fstF_some (x := topV l xs) (by rw [List.getElem?_map, hk]; rfl) hp fun j y hj hy => by
    rw [List.getElem?_map] at hy
    obtain ⟨ys, hys, rfl⟩ := Option.map_eq_some_iff.1 hy
    exact hn j ys hj hys
  refine ⟨?_, fun ys hys => ?_, by rw [List.length_set]; have := h.num; omega, fun ys hys => ?_⟩
  · rw [List.take_add_one, hx, Option.toList_some, List.foldl_append, h.tops, List.foldl_cons, List.foldl_nil, List.map_set, topV_end]
    apply List.ext_getElem?
    intro j
    rw [coverS_at, hf, List.getElem?_set, List.length_map]
    by_cases hjk : j = k
    · subst hjk
      rw [if_pos rfl, if_pos rfl, if_pos hkl]
      simp [nth, hx]
    · rw [if_neg hjk, if_neg (Ne.symm hjk)]
  · rcases List.mem_or_eq_of_mem_set hys with hys | rfl
    · obtain ⟨zs, j, h1, h2⟩ := h.rows ys hys
      exact ⟨zs, j, h1, by omega⟩
    · exact ⟨xs, i, rfl, by omega⟩
  · rcases List.mem_or_eq_of_mem_set hys with hys | rfl
    · have := h.short ys hys; omega
    · have := h.short xs (List.mem_of_getElem? hk); simp; omega
end Go.Ap
namespace Go.Proofs.YtbahddjbncinbaaGreatDoor
open Go.RowKit Go.Ap Go.Shelf Go.Proofs

attribute [local go_sem] Oper.semAt_some bs_toList empty_toList bs_size bs_extract
set_option maxHeartbeats 4000000 in
theorem clo64 (l xs ys : List Int) (j : Nat) (x : Int) (B1 B2 : Nat) (a : Option Addr) (n c : Nat) (v : Value) (W : World) (h : RowR W v xs) (hxs : xs = ys ++ [(j : Int)]) (hj : j < n) (hl : Ints W a n l) (hc1 : W.cell? ⟨B1, 0, none⟩ = some (.slice a n c)) (hc2 : W.cell? ⟨B2, 0, none⟩ = some (.int .i64 x)) :
    Calls Tryz.prog 64 (#[v] ++ #[.pointer (some ⟨B1, 0, none⟩), .pointer (some ⟨B2, 0, none⟩)]) W fun e w' => e = .returned (.bool (decide (topV l xs ≥ x))) ∧ Below W.heap.size W w' := by
  rw [hxs, topV_end]
  obtain ⟨b, m, k, rfl, hr⟩ := h
  have hm := hr.len
  have hms := hr.small
  obtain ⟨m', hm'⟩ : ∃ m', ys.length = m' := ⟨_, rfl⟩
  have hmm : m = m' + 1 := by rw [hxs] at hm; simp at hm; omega
  obtain ⟨y, b1, o1, v1, hy, rfl, q1, rfl, _⟩ := Sl.at hr (show m' < m by omega)
  obtain ⟨z, b2, o2, v2, hz, rfl, q2, rfl, _⟩ := Sl.at hl hj
  have hy2 : y = (j : Int) := by
    rw [hxs, ← hm'] at hy
    simpa using hy.symm
  subst hy2
  have HZ := Lib.hid (show nth l j = z by simp [nth, hz])
  have s1 : IntKind.i64.wrap ((m : Int) - 1) = (m' : Int) := by rw [show (m : Int) - 1 = (m' : Int) by omega]; exact IntWalk.i64_in _ (by omega)
  have i1 : (m' : Int) < (m : Int) := by omega
  have i2 : (j : Int) < (n : Int) := by omega
  rw [HZ.out]
  simp only [List.append_toArray, List.cons_append, List.nil_append]
  clear hr hl hy hz hxs hm hm' hmm
  go_enter Tryz.func64, Tryz.ntmps64
  go_wp2_with (fail)
  go_quiet (fail)
  clear s1
  go_wp2_with (fail)
  go_ret
  exact ⟨rfl, bdrewN _ _⟩
end Go.Proofs.YtbahddjbncinbaaGreatDoor
