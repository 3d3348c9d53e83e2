/-
  Pieces of rows; a row of values that reads as rows; what depends on the call's own blocks alone.
-/
import Derived.Test.YtbcnbchpcbglhaaRC
namespace Go.Proofs.Ytbcnbchpcbglhaa
open Go.RowKit Go.Ap Go.Shelf Go.Proofs

theorem ints_take {w : World} {a : Option Addr} {n k : Nat} {xs : List Int} (h : Ints w a n xs) (hk : k ≤ n) : Ints w a k (xs.take k) :=
  ⟨by rw [List.length_take, h.len]; omega, by have := h.small; omega, fun j x hx => by
    rw [List.getElem?_take] at hx
    split at hx
    · exact h.cells j x hx
    · cases hx⟩
theorem ints_drop {w : World} {b o o' n k : Nat} {xs : List Int} (h : Ints w (some ⟨b, o, none⟩) n xs) (ho : k < n → o' = o + k) : Ints w (some ⟨b, o', none⟩) (n - k) (xs.drop k) :=
  ⟨by rw [List.length_drop, h.len], by have := h.small; omega, fun j x hx => by
    rw [List.getElem?_drop] at hx
    obtain ⟨b', off, v, ha, hc, hr⟩ := h.cells _ x hx
    have hlt : k + j < xs.length := (List.getElem?_eq_some_iff.1 hx).1
    have ho' := ho (by rw [← h.len]; omega)
    cases ha
    exact ⟨b, o', v, rfl, by rw [ho', Nat.add_assoc]; exact hc, hr⟩⟩
theorem grow_rel {w : World} {l : Nat} {xs : List Value} {T : List (List Int)} {A : Value} {x : List Int} (hx : ∀ i x, i < l → T[i]? = some x → ∃ u, xs[i]? = some u ∧ RowR w u x) (hlen : xs.length = l) (hr : RowR w A x) (hl : T[l]? = some x) :
    ∀ i x, i < l + 1 → T[i]? = some x → ∃ u, (xs ++ [A])[i]? = some u ∧ RowR w u x := by
  intro i y hi hy
  rcases Nat.lt_or_ge i l with h | h
  · obtain ⟨u, hu, hru⟩ := hx i y h hy
    exact ⟨u, by rw [List.getElem?_append_left (by omega)]; exact hu, hru⟩
  · obtain rfl : i = l := by omega
    rw [hl] at hy
    cases hy
    exact ⟨A, by rw [List.getElem?_append_right (by omega)]; simp [hlen], hr⟩
theorem rows_of_own {w W : World} {base n : Nat} {va : Value} {xs : List Value} {T : List (List Int)} (h : W.ownsRow base 23 1 va n xs) (hT : T.length = n) (hn : 0 < n) (hn2 : n ≤ 32) (hx : ∀ i x, i < n → T[i]? = some x → ∃ u, xs[i]? = some u ∧ RowR w u x) (hb : Below w.heap.size w W) :
    ∃ a c, va = .slice a n c ∧ Rows2 W a n T := by
  obtain ⟨g, cap, rfl, _, _⟩ := h.form hn
  refine ⟨_, cap, rfl, hT, by omega, fun k x hk => ?_⟩
  have hkl : k < n := by rw [← hT]; exact (List.getElem?_eq_some_iff.1 hk).1
  obtain ⟨u, hu, hr⟩ := hx k x hkl hk
  have hc := h.cells (g := g) rfl k u hu
  have hadd : (⟨g, 0, none⟩ : Addr).add k = ⟨g, 0 + k, none⟩ := by unfold Addr.add; split <;> simp_all
  rw [hadd] at hc
  exact ⟨g, 0, u, rfl, hc, hr.mono (Nat.le_refl _) hb⟩

section
variable {e t : TypeId} {w W : World} {base : Nat} {v : Value} {n : Nat} {xs : List Value}
theorem owns_agree (h : w.ownsRow base e 1 v n xs) (hW : ∀ j, base ≤ j → j < w.heap.size → W.heap[j]? = w.heap[j]?) : W.ownsRow base e 1 v n xs := by
  refine ⟨h.1, ?_⟩
  rcases h.2 with hn | ⟨g, cap, cur, rfl, hbb, hgg, rest⟩
  · exact .inl hn
  · exact .inr ⟨g, cap, cur, rfl, hbb, (hW g hbb (Array.getElem?_eq_some_iff.1 hgg).1).trans hgg, rest⟩
theorem ownI_agree {ys : List Int} (h : OwnI e w base v ys) (hW : ∀ j, base ≤ j → j < w.heap.size → W.heap[j]? = w.heap[j]?) : OwnI e W base v ys := ⟨owns_agree h.1 hW, h.2⟩
end

/-- two tables of n columns, one above the other -/
def twoF (f g : Nat → Nat → Int) (n i j : Nat) : Int := if i < n then f i j else g (i - n) j
def Tab2 (W : World) (b n : Nat) (f g : Nat → Nat → Int) : Prop :=
  ∀ i, i < n + n → ∃ b' c', W.cell? ⟨b, i, none⟩ = some (.slice (some ⟨b', 0, none⟩) n c') ∧ ∀ j, j < n → W.cell? ⟨b', j, none⟩ = some (.int .i64 (twoF f g n i j))
/-- the values of a table's lines, each a block of the call's own -/
def Lines (w : World) (base n : Nat) (f : Nat → Nat → Int) (vs : List Value) : Prop := vs.length = n ∧ ∀ i, i < n → ∃ u, vs[i]? = some u ∧ OwnI 3 w base u (lineF f i n)
theorem Lines.agree {w W : World} {base n : Nat} {f : Nat → Nat → Int} {vs : List Value} (h : Lines w base n f vs) (hW : ∀ j, base ≤ j → j < w.heap.size → W.heap[j]? = w.heap[j]?) : Lines W base n f vs :=
  ⟨h.1, fun i hi => by obtain ⟨u, hu, ho⟩ := h.2 i hi; exact ⟨u, hu, ownI_agree ho hW⟩⟩
theorem Lines.mono {w : World} {base base' n : Nat} {f : Nat → Nat → Int} {vs : List Value} (h : Lines w base n f vs) (hb : base' ≤ base) : Lines w base' n f vs :=
  ⟨h.1, fun i hi => by obtain ⟨u, hu, ho⟩ := h.2 i hi; exact ⟨u, hu, ho.mono hb⟩⟩
theorem Lines.below {w W : World} {base n : Nat} {f : Nat → Nat → Int} {vs : List Value} (h : Lines w base n f vs) (hb : Below w.heap.size w W) : Lines W base n f vs :=
  ⟨h.1, fun i hi => by obtain ⟨u, hu, ho⟩ := h.2 i hi; exact ⟨u, hu, ho.below hb⟩⟩
theorem Lines.one {w : World} {base n : Nat} {f : Nat → Nat → Int} {vs : List Value} (h : Lines w base n f vs) (hn : 0 < n) {i : Nat} (hi : i < n) : ∃ b' c', vs[i]? = some (.slice (some ⟨b', 0, none⟩) n c') ∧ ∀ j, j < n → w.cell? ⟨b', j, none⟩ = some (.int .i64 (f i j)) := by
  obtain ⟨u, hu, ho⟩ := h.2 i hi
  obtain ⟨b', c', rfl⟩ := ho.addr (by rw [lineF_len]; exact hn)
  rw [lineF_len] at hu ho
  refine ⟨b', c', hu, fun j hj => ?_⟩
  have hc := (ho.cell (j := j) (by rw [lineF_len]; exact hj)).1
  rw [nth_lineF hj] at hc
  exact hc
theorem lines_of {w : World} {base n : Nat} {v : Value} {f : Nat → Nat → Int} (h : OwnRR 3 23 w base v (tabF f n n)) : ∃ vs, w.ownsRow base 23 1 v n vs ∧ Lines w base n f vs := by
  obtain ⟨vs, h1, h2, _⟩ := h
  rw [tabF_len] at h1
  refine ⟨vs, h1, by have := h1.1; omega, fun i hi => ?_⟩
  have hr : (tabF f n n)[i]? = some (lineF f i n) := by
    rw [← row_tabF hi, row_eq (by rw [tabF_len]; exact hi)]
    exact List.getElem?_eq_getElem _
  exact h2 i _ hr
/-- what slices.Concat makes of two tables is a table that stands whatever happens to an older block -/
theorem tab2_rob {w : World} {base n g cap : Nat} {ob : Option Nat} {f h : Nat → Nat → Int} {vs us : List Value} (hn : 0 < n) (hob : ∀ j, ob = some j → j < base) (ho : w.ownsRow base 23 1 (.slice (some ⟨g, 0, none⟩) (n + n) cap) (n + n) (vs ++ us)) (hv : Lines w base n f vs) (hu : Lines w base n h us) :
    Rob ob w fun W => Tab2 W g n f h := by
  intro W hW
  have hA : ∀ j, base ≤ j → j < w.heap.size → W.heap[j]? = w.heap[j]? := fun j hb hj => hW j hj fun e => by have := hob j e.symm; omega
  have ho' := owns_agree ho hA
  have hv' := hv.agree hA
  have hu' := hu.agree hA
  intro i hi
  have hcell : ∀ u, (vs ++ us)[i]? = some u → W.cell? ⟨g, i, none⟩ = some u := fun u hu => by
    have hc := ho'.cells (g := g) rfl i u hu
    have hadd : (⟨g, 0, none⟩ : Addr).add i = ⟨g, i, none⟩ := by unfold Addr.add; split <;> simp_all
    rw [hadd] at hc
    exact hc
  by_cases hin : i < n
  · obtain ⟨b', c', h1, h2⟩ := hv'.one hn hin
    refine ⟨b', c', hcell _ (by rw [List.getElem?_append_left (by rw [hv'.1]; exact hin)]; exact h1), fun j hj => ?_⟩
    rw [h2 j hj, twoF, if_pos hin]
  · obtain ⟨b', c', h1, h2⟩ := hu'.one hn (i := i - n) (by omega)
    refine ⟨b', c', hcell _ (by rw [List.getElem?_append_right (by rw [hv'.1]; omega), hv'.1]; exact h1), fun j hj => ?_⟩
    rw [h2 j hj, twoF, if_neg hin]

end Go.Proofs.Ytbcnbchpcbglhaa
