/-
  From what a row says of an argument ('it reads as this datum') to the words that the walks use: a slice of rules, a string.
-/
import Derived.Test.YtamdonlncfmmmaaStrs
import Derived.ProofKit
import Derived.SizedLaws
import Derived.Lib.RowBridge
import Derived.Deep.Slices
import Derived.Deep.Fields
import Derived.ChangeSame
namespace Go.Ap
open Go Go.RowKit Go.Deep Go.ChangeShapes Go.WideShapes Go.ChangeAt

section
variable {H : Type} {enc : TypeId × Value → H} {P : Program} {w : World}
/-- each weight is within the reach -/
def Fit (P : Program) (t : TypeId) (d : DataW H) : Prop := ∀ n ∈ d.weights P t, n ≤ reachBytes

theorem weightsAll_mem {e : TypeId} : ∀ {ds : List (DataW H)} {d : DataW H}, d ∈ ds → ∀ n ∈ d.weights P e, n ∈ DataW.weightsAll P e ds
  | [], _, h, _, _ => by simp at h
  | d0 :: ds, d, h, n, hn => by
    simp only [DataW.weightsAll, List.mem_append]
    rcases List.mem_cons.1 h with rfl | h
    · exact .inl hn
    · exact .inr (weightsAll_mem h n hn)

theorem Fit.each {ts : List TypeId} {ds : List (DataW H)} (h : (DataW.weightsEach P ts ds).all (· ≤ reachBytes) = true) {j : Nat} {t : TypeId} {d : DataW H} (ht : ts[j]? = some t) (hd : ds[j]? = some d) : Fit P t d := fun n hn => by
  have := List.all_eq_true.1 h n (DataW.weights_mem_each ht hd n hn)
  simpa using this

theorem Fit.elem {t e : TypeId} {elems spare : List (DataW H)} (h : Fit P t (.slice elems spare)) (ht : P.underlying t = some (.slice e)) {d : DataW H} (hd : d ∈ elems ∨ d ∈ spare) : Fit P e d := fun n hn => by
  refine h n ?_
  simp only [DataW.weights, ht, List.mem_cons, List.mem_append]
  rcases hd with hd | hd
  · exact .inr (.inl (weightsAll_mem hd n hn))
  · exact .inr (.inr (weightsAll_mem hd n hn))

theorem Fit.cap {t e : TypeId} {elems spare : List (DataW H)} (h : Fit P t (.slice elems spare)) (ht : P.underlying t = some (.slice e)) : (elems.length + spare.length) * P.bytesOf e ≤ reachBytes :=
  h _ (by simp only [DataW.weights, ht]; exact List.mem_cons_self ..)

end
section
variable {H : Type} {enc : TypeId × Value → H} {P : Program} {w : World} {base : Nat} {spare : Nat → Bool} {held : Bool}
theorem open_slice_fields {t e : TypeId} {fs : Array Field} {fuel : Nat} {cs : List Value} {x : DataW H × List MemPlace} (ht : P.underlying t = some (.slice e)) (he : P.underlying e = some (.struct fs))
    (hone : oneCellFields P fs = true) (hC : P.cellsOf e = fs.size) (h : DataW.trod enc P w base spare held fuel t cs = some x) :
    (cs = [.slice none 0 0] ∧ x = (.nil, [])) ∨
    ∃ (a : Addr) (len cap m : Nat) (D : Nat → DataW H) (Pl : Nat → List MemPlace), cs = [.slice (some a) len cap] ∧ base ≤ a.block ∧ len ≤ cap ∧ cap ≤ maxLen ∧ m = (if spare a.block then cap else len) ∧
      x = (.slice ((List.range len).map D) ((List.range (m - len)).map fun j => D (len + j)), MemPlace.row a (m * fs.size) ++ (List.range m).flatMap Pl) ∧
      ∀ i, i < m → ∃ (ys : List (DataW H × List MemPlace)) (n : Nat), D i = .agg (ys.map (·.1)) ∧ Pl i = ys.flatMap (·.2) ∧ ys.length = fs.size ∧
        ∀ (j : Nat) (f : Field), fs[j]? = some f → ∃ (v : Value) (y : DataW H × List MemPlace), w.cell? (a.add (i * fs.size + j)) = some v ∧ ys[j]? = some y ∧ DataW.trod enc P w base spare held n f.type [v] = some y := by
  rcases open_slice ht h with h0 | ⟨a, len, cap, m, n, D, Pl, hcs, hb, hl, hm, hmm, hx, hi⟩
  · exact .inl h0
  · refine .inr ⟨a, len, cap, m, D, Pl, hcs, hb, hl, hm, hmm, by rw [hC] at hx; exact hx, fun i him => ?_⟩
    obtain ⟨cs', hc, ht'⟩ := hi i him
    rw [hC] at hc
    obtain ⟨ys, n', hn', hy, hlen, hyl, hf⟩ := DataW.trod_struct he ht'
    obtain ⟨_, hcl, hat⟩ := World.cells?_some hc
    simp only [Prod.mk.injEq] at hy
    refine ⟨ys, n', hy.1, hy.2, hyl, fun j f hj => ?_⟩
    obtain ⟨ho, hk⟩ := hone_of hone j f hj
    have hjl : j < fs.size := (Array.getElem?_eq_some_iff.1 hj).1
    have hcell := hat j hjl
    have hv : cs'[j]? = some (cs'[j]'(by omega)) := List.getElem?_eq_getElem (by omega)
    have h1 := hf j f hj
    rw [ho, hk] at h1
    have hone' : (cs'.drop j).take 1 = [cs'[j]'(by omega)] := by
      rw [List.drop_eq_getElem_cons (by omega)]
      rfl
    rw [hone'] at h1
    have hys : ys[j]? = some (ys[j]'(by omega)) := List.getElem?_eq_getElem (by omega)
    refine ⟨_, _, ?_, hys, h1.trans hys⟩
    rw [← Go.Deep.add_add, hcell, hv]

end
section
variable {H : Type} {enc : TypeId × Value → H} {P : Program} {w : World}
theorem Fit.parts {t : TypeId} {fs : Array Field} {parts : List (DataW H)} (h : Fit P t (.agg parts)) (ht : P.underlying t = some (.struct fs)) {j : Nat} {f : Field} {d : DataW H} (hf : fs[j]? = some f) (hd : parts[j]? = some d) : Fit P f.type d := fun n hn => by
  refine h n ?_
  simp only [DataW.weights, ht]
  exact DataW.weights_mem_each (by simp [hf]) hd n hn
theorem fit_str {H : Type} {P : Program} {t : TypeId} {l : List UInt8} (h : Fit (H := H) P t (.lit (.string l))) : l.length ≤ 4611686018427387903 := by
  have h1 := h l.length (by simp [DataW.weights])
  simp only [reachBytes] at h1
  omega
theorem open_Str {t : TypeId} (ht : P.underlying t = some .string) {fuel : Nat} {s : ByteArray} {d : DataW H} {p : List MemPlace} (h : DataW.trod enc P w 0 (fun _ => true) true fuel t [.string s] = some (d, p)) (hw : Fit P t d) : ∃ l : Str, s = bs l ∧ l.length ≤ 4611686018427387903 := by
  obtain ⟨s', h1, h2, _⟩ := DataW.trod_string ht h
  simp only [List.cons.injEq, Value.string.injEq, and_true] at h1
  subst h1
  simp only [Prod.mk.injEq] at h2
  obtain ⟨rfl, _⟩ := h2
  exact ⟨s.data.toList, rfl, fit_str hw⟩
theorem open_Rls {t e : TypeId} {f0 f1 : Field} {a : Option Addr} {n c fuel : Nat} {d : DataW H} {p : List MemPlace} (ht : P.underlying t = some (.slice e)) (he : P.underlying e = some (.struct #[f0, f1]))
    (h0 : P.underlying f0.type = some .string) (h1 : P.underlying f1.type = some .string) (hone : oneCellFields P #[f0, f1] = true) (hC : P.cellsOf e = 2) (hby : 1 ≤ P.bytesOf e)
    (h : DataW.trod enc P w 0 (fun _ => true) true fuel t [.slice a n c] = some (d, p)) (hw : Fit P t d) : ∃ rs, Rls w a n rs := by
  rcases open_slice_fields ht he hone hC h with ⟨hcs, _⟩ | ⟨a', len, cap, m, D, Pl, hcs, _, hl, hm, hmm, hx, hel⟩
  · simp at hcs
    obtain ⟨rfl, rfl, rfl⟩ := hcs
    exact ⟨[], rfl, by omega, fun k x hk => by simp at hk⟩
  · simp at hcs
    obtain ⟨rfl, rfl, rfl⟩ := hcs
    simp only [if_true] at hmm
    subst hmm
    simp only [Prod.mk.injEq] at hx
    obtain ⟨rfl, _⟩ := hx
    have hcap := hw.cap ht
    simp only [List.length_map, List.length_range] at hcap
    have hn : n ≤ 4611686018427387903 := by
      have h1 : n ≤ n + (m - n) := Nat.le_add_right _ _
      have h2 : (n + (m - n)) * 1 ≤ (n + (m - n)) * P.bytesOf e := Nat.mul_le_mul_left _ hby
      simp only [reachBytes] at hcap
      omega
    have each : ∀ i, i < n → ∃ x : Rule, w.cell? (a'.add (i * 2)) = some (.string (bs x.1)) ∧ w.cell? (a'.add (i * 2 + 1)) = some (.string (bs x.2)) ∧ x.1.length ≤ 4611686018427387903 ∧ x.2.length ≤ 4611686018427387903 := by
      intro i hi
      obtain ⟨ys, k, hD, _, _, hf⟩ := hel i (by omega)
      have hfit : Fit P e (D i) := hw.elem ht (.inl (List.mem_map.2 ⟨i, List.mem_range.2 hi, rfl⟩))
      rw [hD] at hfit
      obtain ⟨v0, y0, c0, g0, t0⟩ := hf 0 f0 rfl
      obtain ⟨v1, y1, c1, g1, t1⟩ := hf 1 f1 rfl
      obtain ⟨s0, hv0, hy0, _⟩ := DataW.trod_string h0 t0
      obtain ⟨s1, hv1, hy1, _⟩ := DataW.trod_string h1 t1
      simp only [List.cons.injEq, and_true] at hv0 hv1
      subst hv0 hv1 hy0 hy1
      have w0 := hfit.parts he (j := 0) (f := f0) rfl (d := .lit (.string s0.data.toList)) (by rw [List.getElem?_map, g0]; rfl)
      have w1 := hfit.parts he (j := 1) (f := f1) rfl (d := .lit (.string s1.data.toList)) (by rw [List.getElem?_map, g1]; rfl)
      exact ⟨(s0.data.toList, s1.data.toList), c0, c1, fit_str w0, fit_str w1⟩
    obtain ⟨X, hX⟩ := choose_lt each
    refine ⟨(List.range n).map X, by simp, hn, fun i x hi => ?_⟩
    have hin : i < n := by
      rcases Nat.lt_or_ge i n with h | h
      · exact h
      · rw [List.getElem?_eq_none (by simp; exact h)] at hi; cases hi
    rw [List.getElem?_map, List.getElem?_range hin] at hi
    simp at hi
    subst hi
    obtain ⟨b, off, spot⟩ := a'
    have hspot : spot = none := by
      have := World.cell?_spot (hX 0 (by omega)).1
      simpa [Addr.add] using this
    subst hspot
    obtain ⟨c0, c1, l0, l1⟩ := hX i hin
    rw [add_plain] at c0 c1
    exact ⟨b, off, rfl, c0, by rw [Nat.add_assoc]; exact c1, l0, l1⟩
end
end Go.Ap
