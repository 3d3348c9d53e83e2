/-
  From what a row says of an argument ('it reads as this datum') to the words that the walks use: collations, places.
-/
import Derived.Test.YtjmebijckcimoaaGreatDoorPl
import Derived.ProofKit
import Derived.SizedLaws
import Derived.Lib.RowBridge
import Derived.Lib.SmallJoins
import Derived.Deep.Slices
import Derived.Deep.Fields
import Derived.ChangeSame
namespace Go.Ap
open Go Go.RowKit Go.Deep Go.ChangeShapes Go.WideShapes Go.ChangeAt

section
variable {H : Type} {enc : TypeId × Value → H} {P : Program} {w : World}

/-- each weight is within the reach -/
def Fit (P : Program) (t : TypeId) (d : DataW H) : Prop := ∀ n ∈ d.weights P t, n ≤ reachBytes

theorem weightsAll_mem {e : TypeId} : ∀ {ds : List (DataW H)} {d : DataW H}, d ∈ ds → ∀ n ∈ d.weights P e, n ∈ DataW.weightsAll P e ds
  | [], _, h, _, _ => by simp at h
  | d0 :: ds, d, h, n, hn => by
    simp only [DataW.weightsAll, List.mem_append]
    rcases List.mem_cons.1 h with rfl | h
    · exact .inl hn
    · exact .inr (weightsAll_mem h n hn)

theorem Fit.each {ts : List TypeId} {ds : List (DataW H)} (h : (DataW.weightsEach P ts ds).all (· ≤ reachBytes) = true) {j : Nat} {t : TypeId} {d : DataW H} (ht : ts[j]? = some t) (hd : ds[j]? = some d) : Fit P t d := fun n hn => by
  have := List.all_eq_true.1 h n (DataW.weights_mem_each ht hd n hn)
  simpa using this

theorem Fit.elem {t e : TypeId} {elems spare : List (DataW H)} (h : Fit P t (.slice elems spare)) (ht : P.underlying t = some (.slice e)) {d : DataW H} (hd : d ∈ elems ∨ d ∈ spare) : Fit P e d := fun n hn => by
  refine h n ?_
  simp only [DataW.weights, ht, List.mem_cons, List.mem_append]
  rcases hd with hd | hd
  · exact .inr (.inl (weightsAll_mem hd n hn))
  · exact .inr (.inr (weightsAll_mem hd n hn))

theorem Fit.cap {t e : TypeId} {elems spare : List (DataW H)} (h : Fit P t (.slice elems spare)) (ht : P.underlying t = some (.slice e)) : (elems.length + spare.length) * P.bytesOf e ≤ reachBytes :=
  h _ (by simp only [DataW.weights, ht]; exact List.mem_cons_self ..)

theorem open_sl1 {α : Type} [Inhabited α] {R : World → Value → α → Prop} {t e : TypeId} {a : Option Addr} {n c : Nat} {fuel : Nat} {d : DataW H} {p : List MemPlace} (ht : P.underlying t = some (.slice e)) (ce : P.cellsOf e = 1) (hby : 1 ≤ P.bytesOf e)
    (hel : ∀ fuel v d p, DataW.trod enc P w 0 (fun _ => true) true fuel e [v] = some (d, p) → Fit P e d → ∃ x, R w v x)
    (h : DataW.trod enc P w 0 (fun _ => true) true fuel t [.slice a n c] = some (d, p)) (hw : Fit P t d) : ∃ xs : List α, Sl R w a n xs := by
  rcases open_slice1 ht ce h with ⟨hcs, _⟩ | ⟨a', len, cap, m, k, V, D, Pl, hcs, _, hl, hm, hmm, hx, hel'⟩
  · simp at hcs
    obtain ⟨rfl, rfl, rfl⟩ := hcs
    exact ⟨[], Sl.nil _ _⟩
  · simp at hcs
    obtain ⟨rfl, rfl, rfl⟩ := hcs
    simp only [if_true] at hmm
    subst hmm
    simp only [Prod.mk.injEq] at hx
    obtain ⟨rfl, _⟩ := hx
    have hcap := hw.cap ht
    simp only [List.length_map, List.length_range] at hcap
    have hn : n ≤ 4611686018427387903 := by
      have h1 : n ≤ n + (m - n) := Nat.le_add_right _ _
      have h2 : (n + (m - n)) * 1 ≤ (n + (m - n)) * P.bytesOf e := Nat.mul_le_mul_left _ hby
      simp only [reachBytes] at hcap
      omega
    have each : ∀ i, i < n → ∃ x, R w (V i) x := fun i hi =>
      hel k (V i) (D i) (Pl i) (hel' i (by omega)).2 (hw.elem ht (.inl (List.mem_map.2 ⟨i, List.mem_range.2 hi, rfl⟩)))
    obtain ⟨X, hX⟩ := choose_lt each
    refine ⟨(List.range n).map X, by simp, hn, fun i x hi => ?_⟩
    have hin : i < n := by
      rcases Nat.lt_or_ge i n with h | h
      · exact h
      · rw [List.getElem?_eq_none (by simp; exact h)] at hi; cases hi
    rw [List.getElem?_map, List.getElem?_range hin] at hi
    simp at hi
    subst hi
    obtain ⟨b, off, spot⟩ := a'
    have hc := (hel' i (by omega)).1
    have hspot : spot = none := by
      have := World.cell?_spot (hel' 0 (by omega)).1
      simpa [Addr.add] using this
    subst hspot
    refine ⟨b, off, V i, rfl, ?_, hX i hin⟩
    rw [← add_plain]
    exact hc

theorem int_of_trod {e : TypeId} (he : P.underlying e = some (.int .i64)) : ∀ fuel v (d : DataW H) p, DataW.trod enc P w 0 (fun _ => true) true fuel e [v] = some (d, p) → Fit P e d → ∃ x, IntR w v x := by
  intro fuel v d p h _
  obtain ⟨n, hv, hx, hw⟩ := DataW.trod_int he h
  simp at hv
  subst hv
  refine ⟨n, rfl, ?_⟩
  have h1 : IntKind.i64.min = -9223372036854775808 := rfl
  have h2 : IntKind.i64.max = 9223372036854775807 := rfl
  simp only [Lit.wf, Bool.and_eq_true, decide_eq_true_eq, h1, h2] at hw
  exact hw

theorem open_Ints {t e : TypeId} {a : Option Addr} {n c fuel : Nat} {d : DataW H} {p : List MemPlace} (ht : P.underlying t = some (.slice e)) (he : P.underlying e = some (.int .i64)) (ce : P.cellsOf e = 1) (hby : 1 ≤ P.bytesOf e)
    (h : DataW.trod enc P w 0 (fun _ => true) true fuel t [.slice a n c] = some (d, p)) (hw : Fit P t d) : ∃ xs, Ints w a n xs :=
  open_sl1 ht ce hby (int_of_trod he) h hw

theorem open_Rows2 {t s e : TypeId} {a : Option Addr} {n c fuel : Nat} {d : DataW H} {p : List MemPlace} (ht : P.underlying t = some (.slice s)) (hs : P.underlying s = some (.slice e)) (he : P.underlying e = some (.int .i64)) (cs : P.cellsOf s = 1) (ce : P.cellsOf e = 1)
    (hbs : 1 ≤ P.bytesOf s) (hbe : 1 ≤ P.bytesOf e)
    (h : DataW.trod enc P w 0 (fun _ => true) true fuel t [.slice a n c] = some (d, p)) (hw : Fit P t d) : ∃ xs, Rows2 w a n xs :=
  open_sl1 ht cs hbs (fun fuel v d p h hf => by
    rcases open_slice1 hs ce h with ⟨hcs, _⟩ | ⟨a', len, cap, m, k, V, D, Pl, hcs, _⟩
    · simp at hcs; subst hcs; exact ⟨[], _, _, _, rfl, Sl.nil _ _⟩
    · simp at hcs
      subst hcs
      obtain ⟨xs, hxs⟩ := open_Ints hs he ce hbe h hf
      exact ⟨xs, _, _, _, rfl, hxs⟩) h hw
theorem Fit.parts {t : TypeId} {fs : Array Field} {parts : List (DataW H)} (h : Fit P t (.agg parts)) (ht : P.underlying t = some (.struct fs)) {j : Nat} {f : Field} {d : DataW H} (hf : fs[j]? = some f) (hd : parts[j]? = some d) : Fit P f.type d := fun n hn => by
  refine h n ?_
  simp only [DataW.weights, ht]
  exact DataW.weights_mem_each (by simp [hf]) hd n hn
theorem fit_str {H : Type} {P : Program} {t : TypeId} {l : List UInt8} (h : Fit (H := H) P t (.lit (.string l))) : l.length ≤ 281474976710656 := by
  have h1 := h l.length (by simp [DataW.weights])
  have h2 := reachBytes_lt
  have e3 : (2 : Nat) ^ 47 = 140737488355328 := by decide
  omega
/-- a string, not too long -/
def StrF (_ : World) (v : Value) (x : Str) : Prop := v = sv x ∧ x.length ≤ 281474976710656
theorem str_of_trod {e : TypeId} (he : P.underlying e = some .string) : ∀ fuel v (d : DataW H) p, DataW.trod enc P w 0 (fun _ => true) true fuel e [v] = some (d, p) → Fit P e d → ∃ x, StrF w v x := by
  intro fuel v d p h hf
  obtain ⟨s, hv, hx, _⟩ := DataW.trod_string he h
  simp only [List.cons.injEq, and_true] at hv
  subst hv
  simp only [Prod.mk.injEq] at hx
  obtain ⟨rfl, _⟩ := hx
  exact ⟨s.data.toList, rfl, fit_str hf⟩
theorem open_Strs {t e : TypeId} {a : Option Addr} {n c fuel : Nat} {d : DataW H} {p : List MemPlace} (ht : P.underlying t = some (.slice e)) (he : P.underlying e = some .string) (ce : P.cellsOf e = 1) (hby : 1 ≤ P.bytesOf e)
    (h : DataW.trod enc P w 0 (fun _ => true) true fuel t [.slice a n c] = some (d, p)) (hw : Fit P t d) : ∃ xs, StrsL w a n xs ∧ ∀ s ∈ xs, s.length ≤ 281474976710656 := by
  obtain ⟨xs, hx⟩ := open_sl1 (R := StrF) ht ce hby (str_of_trod he) h hw
  refine ⟨xs, hx.weak fun v x _ hr => hr.1, fun s hs => ?_⟩
  obtain ⟨k, hk⟩ := List.getElem?_of_mem hs
  obtain ⟨_, _, _, _, _, hr⟩ := hx.cells k s hk
  exact hr.2
/-- a slice is at most as long as it may grow -/
theorem slice_cap {t e : TypeId} {a : Option Addr} {n c fuel : Nat} {x : DataW H × List MemPlace} (ht : P.underlying t = some (.slice e)) (h : DataW.trod enc P w 0 (fun _ => true) true fuel t [.slice a n c] = some x) : n ≤ c := by
  rcases open_slice ht h with ⟨hcs, _⟩ | ⟨a', len, cap, m, k, D, Pl, hcs, _, hl, _⟩
  · simp at hcs
    obtain ⟨rfl, rfl, rfl⟩ := hcs
    exact Nat.le_refl _
  · simp at hcs
    obtain ⟨rfl, rfl, rfl⟩ := hcs
    exact hl
theorem open_slice1m {t e : TypeId} {fuel : Nat} {v : Value} {x : DataW H × List MemPlace} (ht : P.underlying t = some (.slice e)) (h : DataW.trod enc P w 0 (fun _ => true) true fuel t [v] = some x) : ∃ a n c, v = .slice a n c := by
  rcases open_slice ht h with ⟨hcs, _⟩ | ⟨a', len, cap, m, k, D, Pl, hcs, _⟩
  · simp at hcs; exact ⟨_, _, _, hcs⟩
  · simp at hcs; exact ⟨_, _, _, hcs⟩
theorem open_slM {α : Type} [Inhabited α] {R : World → Nat → Nat → α → Prop} {t e : TypeId} {a : Option Addr} {n c m : Nat} {fuel : Nat} {d : DataW H} {p : List MemPlace} (ht : P.underlying t = some (.slice e)) (ce : P.cellsOf e = m) (hm0 : 0 < m) (hby : 1 ≤ P.bytesOf e)
    (hel : ∀ fuel b o cs d p, w.cells? 0 ⟨b, o, none⟩ m = some cs → DataW.trod enc P w 0 (fun _ => true) true fuel e cs = some (d, p) → Fit P e d → ∃ x, R w b o x)
    (h : DataW.trod enc P w 0 (fun _ => true) true fuel t [.slice a n c] = some (d, p)) (hw : Fit P t d) : ∃ xs : List α, SlM m R w a n xs := by
  rcases open_slice ht h with ⟨hcs, _⟩ | ⟨a', len, cap, mm, k, D, Pl, hcs, _, hl, hm, hmm, hx, hel'⟩
  · simp at hcs
    obtain ⟨rfl, rfl, rfl⟩ := hcs
    exact ⟨[], SlM.nil _ _⟩
  · simp at hcs
    obtain ⟨rfl, rfl, rfl⟩ := hcs
    simp only [if_true] at hmm
    subst hmm
    rw [ce] at hel' hx
    simp only [Prod.mk.injEq] at hx
    obtain ⟨rfl, _⟩ := hx
    have hcap := hw.cap ht
    simp only [List.length_map, List.length_range] at hcap
    have hn : n ≤ 4611686018427387903 := by
      have h1 : n ≤ n + (mm - n) := Nat.le_add_right _ _
      have h2 : (n + (mm - n)) * 1 ≤ (n + (mm - n)) * P.bytesOf e := Nat.mul_le_mul_left _ hby
      simp only [reachBytes] at hcap
      omega
    rcases Nat.eq_zero_or_pos n with h0 | h0
    · subst h0
      exact ⟨[], SlM.nil _ _⟩
    · obtain ⟨b, off, spot⟩ := a'
      have hspot : spot = none := by
        obtain ⟨cs', hc, _⟩ := hel' 0 (by omega)
        obtain ⟨_, hcl, hat⟩ := World.cells?_some hc
        have h5 := hat 0 hm0
        rw [List.getElem?_eq_getElem (by omega)] at h5
        have := World.cell?_spot h5
        simpa [Addr.add] using this
      subst hspot
      have each : ∀ i, i < n → ∃ x, R w b (off + i * m) x := fun i hi => by
        obtain ⟨cs', hc, ht'⟩ := hel' i (by omega)
        rw [add_plain] at hc
        exact hel k b _ cs' (D i) (Pl i) hc ht' (hw.elem ht (.inl (List.mem_map.2 ⟨i, List.mem_range.2 hi, rfl⟩)))
      obtain ⟨X, hX⟩ := choose_lt each
      refine ⟨(List.range n).map X, by simp, hn, fun i x hi => ?_⟩
      have hin : i < n := by
        rcases Nat.lt_or_ge i n with h | h
        · exact h
        · rw [List.getElem?_eq_none (by simp; exact h)] at hi; cases hi
      rw [List.getElem?_map, List.getElem?_range hin] at hi
      simp at hi
      subst hi
      exact ⟨b, off, rfl, hX i hin⟩
theorem cells_plain {b o m : Nat} {cs : List Value} (hc : w.cells? 0 ⟨b, o, none⟩ m = some cs) : cs.length = m ∧ ∀ j v, cs[j]? = some v → w.cell? ⟨b, o + j, none⟩ = some v := by
  obtain ⟨_, hcl, hat⟩ := World.cells?_some hc
  refine ⟨hcl, fun j v hj => ?_⟩
  have hjl := (List.getElem?_eq_some_iff.1 hj).1
  have := hat j (by omega)
  rw [add_plain] at this
  rw [this, hj]
theorem list6 {α : Type} {l : List α} (h : l.length = 6) : ∃ a b c d e f, l = [a, b, c, d, e, f] := by
  match l, h with
  | [a, b, c, d, e, f], _ => exact ⟨a, b, c, d, e, f, rfl⟩
/-- what a token's type is -/
structure TokTy (P : Program) (e : TypeId) : Prop where
  ex : ∃ f0 f1 f2 f3 f4 g0 g1 : Field, P.underlying e = some (.struct #[f0, f1, f2, f3, f4]) ∧ f0.offset = 0 ∧ f1.offset = 1 ∧ f2.offset = 2 ∧ f3.offset = 4 ∧ f4.offset = 5 ∧
    P.underlying f0.type = some .string ∧ P.underlying f1.type = some .string ∧ P.underlying f2.type = some (.struct #[g0, g1]) ∧ P.underlying f3.type = some (.int .i64) ∧ P.underlying f4.type = some .string ∧
    g0.offset = 0 ∧ g1.offset = 1 ∧ P.underlying g0.type = some .string ∧ P.underlying g1.type = some (.int .i64) ∧
    P.cellsOf f0.type = 1 ∧ P.cellsOf f1.type = 1 ∧ P.cellsOf f2.type = 2 ∧ P.cellsOf f3.type = 1 ∧ P.cellsOf f4.type = 1 ∧ P.cellsOf g0.type = 1 ∧ P.cellsOf g1.type = 1
  cells : P.cellsOf e = 6
  bytes : 1 ≤ P.bytesOf e
theorem i64_of_wf {n : Int} (h : (Lit.int .i64 n).wf = true) : I64 n := by
  have h1 : IntKind.i64.min = -9223372036854775808 := rfl
  have h2 : IntKind.i64.max = 9223372036854775807 := rfl
  simp only [Lit.wf, Bool.and_eq_true, decide_eq_true_eq, h1, h2] at h
  exact h
instance : Inhabited Tok := ⟨⟨[], [], [], 0, 0, []⟩⟩
theorem tok_of_trod {e : TypeId} (hT : TokTy P e) : ∀ fuel b o cs (d : DataW H) p, w.cells? 0 ⟨b, o, none⟩ 6 = some cs → DataW.trod enc P w 0 (fun _ => true) true fuel e cs = some (d, p) → Fit P e d → ∃ x, TokM w b o x := by
  intro fuel b o cs d p hc h hf
  obtain ⟨f0, f1, f2, f3, f4, g0, g1, he, o0, o1, o2, o3, o4, u0, u1, u2, u3, u4, p0, p1, v0, v1, k0, k1, k2, k3, k4, l0, l1⟩ := hT.ex
  obtain ⟨hlen, hcell⟩ := cells_plain hc
  obtain ⟨c0, c1, c2, c3, c4, c5, rfl⟩ := list6 hlen
  obtain ⟨xs, n, _, hx, _, hxl, hfld⟩ := DataW.trod_struct he h
  simp only [Prod.mk.injEq] at hx
  obtain ⟨rfl, _⟩ := hx
  have t0 := hfld 0 f0 rfl
  have t1 := hfld 1 f1 rfl
  have t2 := hfld 2 f2 rfl
  have t3 := hfld 3 f3 rfl
  have t4 := hfld 4 f4 rfl
  rw [o0, k0] at t0
  rw [o1, k1] at t1
  rw [o2, k2] at t2
  rw [o3, k3] at t3
  rw [o4, k4] at t4
  simp only [List.size_toArray, List.length_cons, List.length_nil] at hxl
  have g : ∀ i, i < 5 → ∃ y, xs[i]? = some y := fun i hi => ⟨_, List.getElem?_eq_getElem (show i < xs.length by omega)⟩
  obtain ⟨y0, e0⟩ := g 0 (by omega)
  obtain ⟨y1, e1⟩ := g 1 (by omega)
  obtain ⟨y2, e2⟩ := g 2 (by omega)
  obtain ⟨y3, e3⟩ := g 3 (by omega)
  obtain ⟨y4, e4⟩ := g 4 (by omega)
  have m : ∀ (i : Nat) (y : DataW H × List MemPlace), xs[i]? = some y → (xs.map (·.1))[i]? = some y.1 := fun i y hy => by rw [List.getElem?_map, hy]; rfl
  have w0 := hf.parts he (j := 0) (f := f0) rfl (m 0 _ e0)
  have w1 := hf.parts he (j := 1) (f := f1) rfl (m 1 _ e1)
  have w2 := hf.parts he (j := 2) (f := f2) rfl (m 2 _ e2)
  have w4 := hf.parts he (j := 4) (f := f4) rfl (m 4 _ e4)
  rw [e0] at t0
  rw [e1] at t1
  rw [e2] at t2
  rw [e3] at t3
  rw [e4] at t4
  simp only [List.drop_zero, List.drop_succ_cons, List.take_succ_cons, List.take_zero] at t0 t1 t2 t3 t4
  obtain ⟨s0, a0, b0⟩ := str_of_trod u0 _ _ _ _ t0 w0
  obtain ⟨s1, a1, b1⟩ := str_of_trod u1 _ _ _ _ t1 w1
  obtain ⟨s4, a4, b4⟩ := str_of_trod u4 _ _ _ _ t4 w4
  obtain ⟨z3, a3, _, b3⟩ := DataW.trod_int u3 t3
  simp only [List.cons.injEq, and_true] at a3
  obtain ⟨ys, n2, _, hy, _, hyl, hfl2⟩ := DataW.trod_struct u2 t2
  have q0 := hfl2 0 g0 rfl
  have q1 := hfl2 1 g1 rfl
  rw [p0, l0] at q0
  rw [p1, l1] at q1
  simp only [List.size_toArray, List.length_cons, List.length_nil] at hyl
  have g' : ∀ i, i < 2 → ∃ y, ys[i]? = some y := fun i hi => ⟨_, List.getElem?_eq_getElem (show i < ys.length by omega)⟩
  obtain ⟨z0, i0⟩ := g' 0 (by omega)
  obtain ⟨z1, i1⟩ := g' 1 (by omega)
  rw [i0] at q0
  rw [i1] at q1
  simp only [List.drop_zero, List.drop_succ_cons, List.take_succ_cons, List.take_zero] at q0 q1
  have w2' : Fit P f2.type (.agg (ys.map (·.1))) := by rw [hy] at w2; exact w2
  have wq := w2'.parts u2 (j := 0) (f := g0) rfl (d := z0.1) (by rw [List.getElem?_map, i0]; rfl)
  obtain ⟨sq, aq, bq⟩ := str_of_trod v0 _ _ _ _ q0 wq
  obtain ⟨zl, al, _, bl⟩ := DataW.trod_int v1 q1
  simp only [List.cons.injEq, and_true] at al
  refine ⟨⟨s0, s1, sq, zl, z3, s4⟩, ⟨?_, ?_, ?_, ?_, ?_, ?_⟩, ⟨b0, by simp only; omega, by simp only; omega, i64_of_wf bl, i64_of_wf b3, by simp only; omega⟩⟩
  · have := hcell 0 c0 rfl; rw [Nat.add_zero] at this; rw [this, a0]; rfl
  · rw [hcell 1 c1 rfl, a1]; rfl
  · rw [hcell 2 c2 rfl, aq]; rfl
  · rw [hcell 3 c3 rfl, al]
  · rw [hcell 4 c4 rfl, a3]
  · rw [hcell 5 c5 rfl, a4]; rfl
theorem open_Toks2 {t s e : TypeId} {a : Option Addr} {n c fuel : Nat} {d : DataW H} {p : List MemPlace} (ht : P.underlying t = some (.slice s)) (hs : P.underlying s = some (.slice e)) (hT : TokTy P e) (cs : P.cellsOf s = 1) (hbs : 1 ≤ P.bytesOf s)
    (h : DataW.trod enc P w 0 (fun _ => true) true fuel t [.slice a n c] = some (d, p)) (hw : Fit P t d) : ∃ xs, Toks2 w a n xs :=
  open_sl1 ht cs hbs (fun fuel v d p h hf => by
    rcases open_slice1m hs h with ⟨a', n', c', rfl⟩
    obtain ⟨xs, hxs⟩ := open_slM (R := TokM) hs hT.cells (by omega) hT.bytes (tok_of_trod hT) h hf
    exact ⟨xs, _, _, _, rfl, hxs⟩) h hw
end
end Go.Ap
