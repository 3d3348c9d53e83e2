/-
  What the program's start lays: the two errors of the library; a start that fits; collations and graphs that lie in memory.
-/
import Derived.Test.YtjmebijckcimoaaGreatDoorRows
import Derived.Test.YtjmebijckcimoaaGreatDoorNab
import Derived.Test.YtjmebijckcimoaaGreatDoorOpC
import Derived.Test.YtjmebijckcimoaaGreatDoorVgk
import Derived.Stop.LaidErr
import Derived.LaidMore
import Derived.Stop.Joined
import Derived.MakeChecks
namespace Go.Ap
open Go Go.RowKit Go.Deep Go.ChangeShapes Go.WideShapes Go.ChangeAt
section
variable {H : Type} {enc : TypeId × Value → H} {P : Program} {w : World}
/-- what an arc's type is -/
structure ArcTy (P : Program) (e : TypeId) : Prop where
  ex : ∃ (f0 f1 f2 : Field) (ei : TypeId), P.underlying e = some (.struct #[f0, f1, f2]) ∧ f0.offset = 0 ∧ f1.offset = 1 ∧ f2.offset = 2 ∧
    P.underlying f0.type = some (.int .i64) ∧ P.underlying f1.type = some (.int .i64) ∧ P.underlying f2.type = some (.slice ei) ∧ P.underlying ei = some (.int .i64) ∧ P.cellsOf ei = 1 ∧ 1 ≤ P.bytesOf ei ∧
    P.cellsOf f0.type = 1 ∧ P.cellsOf f1.type = 1 ∧ P.cellsOf f2.type = 1
  cells : P.cellsOf e = 3
  bytes : 1 ≤ P.bytesOf e
theorem list3 {α : Type} {l : List α} (h : l.length = 3) : ∃ a b c, l = [a, b, c] := by
  match l, h with
  | [a, b, c], _ => exact ⟨a, b, c, rfl⟩
theorem arc_of_trod {e : TypeId} (hT : ArcTy P e) : ∀ fuel b o cs (d : DataW H) p, w.cells? 0 ⟨b, o, none⟩ 3 = some cs → DataW.trod enc P w 0 (fun _ => true) true fuel e cs = some (d, p) → Fit P e d → ∃ x, ArcM w b o x := by
  intro fuel b o cs d p hc h hf
  obtain ⟨f0, f1, f2, ei, he, o0, o1, o2, u0, u1, u2, ui, ki, bi, k0, k1, k2⟩ := hT.ex
  obtain ⟨hlen, hcell⟩ := cells_plain hc
  obtain ⟨c0, c1, c2, rfl⟩ := list3 hlen
  obtain ⟨xs, n, _, hx, _, hxl, hfld⟩ := DataW.trod_struct he h
  simp only [Prod.mk.injEq] at hx
  obtain ⟨rfl, _⟩ := hx
  have t0 := hfld 0 f0 rfl
  rw [o0, k0] at t0
  have t1 := hfld 1 f1 rfl
  rw [o1, k1] at t1
  have t2 := hfld 2 f2 rfl
  rw [o2, k2] at t2
  simp only [List.size_toArray, List.length_cons, List.length_nil] at hxl
  have g : ∀ i, i < 3 → ∃ y, xs[i]? = some y := fun i hi => ⟨_, List.getElem?_eq_getElem (show i < xs.length by omega)⟩
  obtain ⟨y0, e0⟩ := g 0 (by omega)
  rw [e0] at t0
  obtain ⟨y1, e1⟩ := g 1 (by omega)
  rw [e1] at t1
  obtain ⟨y2, e2⟩ := g 2 (by omega)
  rw [e2] at t2
  have m : ∀ (i : Nat) (y : DataW H × List MemPlace), xs[i]? = some y → (xs.map (·.1))[i]? = some y.1 := fun i y hy => by rw [List.getElem?_map, hy]; rfl
  have w0 := hf.parts he (j := 0) (f := f0) rfl (m 0 _ e0)
  have w1 := hf.parts he (j := 1) (f := f1) rfl (m 1 _ e1)
  have w2 := hf.parts he (j := 2) (f := f2) rfl (m 2 _ e2)
  simp only [List.drop_zero, List.drop_succ_cons, List.take_succ_cons, List.take_zero] at t0 t1 t2
  obtain ⟨z0, a0, b0⟩ := int_of_trod u0 _ _ _ _ t0 w0
  obtain ⟨z1, a1, b1⟩ := int_of_trod u1 _ _ _ _ t1 w1
  obtain ⟨a, n2, k, rfl⟩ := open_slice1m u2 t2
  obtain ⟨ls, hls⟩ := open_Ints u2 ui ki bi t2 w2
  refine ⟨((z0, z1), ls), a, k, ?_, ?_, ?_, ?_, ?_, ?_⟩
  · have := hcell 0 c0 rfl; rw [Nat.add_zero] at this; rw [this, a0]
  · rw [hcell 1 c1 rfl, a1]
  · rw [hcell 2 _ rfl]; simp only; rw [hls.len]
  · exact b0
  · exact b1
  · simp only; rw [hls.len]; exact hls
end
end Go.Ap
namespace Go.Proofs.YtjmebijckcimoaaGreatDoor
open Go Go.Ap Go.RowKit Go.Deep Go.ChangeShapes Go.WideShapes Go.ChangeAt Go.Shelf

theorem gES : Tryz.prog.globalNamed "strconv.ErrSyntax" = some 1 := by kernel_rfl
theorem tES : (Tryz.prog.globals[1]?).map (·.type) = some 109 := by kernel_rfl
theorem gER : Tryz.prog.globalNamed "strconv.ErrRange" = some 2 := by kernel_rfl
theorem tER : (Tryz.prog.globals[2]?).map (·.type) = some 109 := by kernel_rfl
theorem cellsEs : Tryz.prog.cellsOf 208 = 1 := by kernel_rfl
theorem cellsSt : Tryz.prog.cellsOf 9 = 1 := by kernel_rfl
theorem starEs : "*" ++ "errors.errorString" = "*errors.errorString" := by decide
theorem rowEs (u : TypeId) (h : Tryz.prog.typeName? 3 u = some "*errors.errorString") : u = 206 :=
  typeName_ptr_named (nm := "errors.errorString") (by rw [starEs]; kernel_rfl) (by kernel_rfl) (by decide) u (by rw [starEs]; exact h)
/-- what the rows list -/
abbrev laidL : List (String × DataW Unit) := [("math/bits.deBruijn32tab", Rows.laid_math_bits_deBruijn32tab), ("math/bits.deBruijn64tab", Rows.laid_math_bits_deBruijn64tab), ("internal/strconv.uint64pow10", Rows.laid_internal_strconv_uint64pow10), ("strconv.ErrRange", Rows.laid_strconv_ErrRange), ("strconv.ErrSyntax", Rows.laid_strconv_ErrSyntax)]
theorem ev_of_laid {w : World} (h : laidMet Tryz.prog laidL w) : EV w := by
  have h3 := h.tail.tail.tail
  obtain ⟨a0, s0, hv0, -, -, -⟩ := laid_sentinel h3 gER tER Tryz.underlying109 rowEs Tryz.underlying206 Tryz.underlying208 rfl rfl Tryz.underlying9 cellsEs cellsSt
  obtain ⟨a1, s1, hv1, -, -, -⟩ := laid_sentinel h3.tail gES tES Tryz.underlying109 rowEs Tryz.underlying206 Tryz.underlying208 rfl rfl Tryz.underlying9 cellsEs cellsSt
  exact ⟨⟨_, _, hv1⟩, ⟨_, _, hv0⟩⟩
/-- the door's own heap meets the condition -/
theorem door_met (os : Os) (args : Array Value) : laidMet Tryz.prog laidL ((World.doorLaid Tryz.prog 62 os).forCall (fun _ _ => 0) ⟨#[], args, []⟩).memory :=
  laidMet_of_run' 8 (by kernel_rfl) (by kernel_rfl)
theorem arcTy : ArcTy Tryz.prog 48 :=
  ⟨⟨_, _, _, _, Tryz.underlying48, rfl, rfl, rfl, Tryz.underlying3, Tryz.underlying3, Tryz.underlying44, Tryz.underlying3, by kernel_rfl, of_decide_eq_true (by kernel_rfl), by kernel_rfl, by kernel_rfl, by kernel_rfl⟩, by kernel_rfl, of_decide_eq_true (by kernel_rfl)⟩
theorem coneGraph : ∃ f0 f1 : Field, Tryz.prog.underlying 31 = some (.struct #[f0, f1]) ∧ f0.type = 22 ∧ f1.type = 29 ∧ oneCellFields Tryz.prog #[f0, f1] = true :=
  ⟨_, _, Tryz.underlying31, rfl, rfl, by kernel_rfl⟩
set_option maxRecDepth 100000 in
/-- a graph that reads as a datum -/
theorem open_Graph {H : Type} {enc : TypeId × Value → H} {w : World} {v : Value} {d : DataW H} {p : List MemPlace} (hv : ∃ b0, Value.okWide Tryz.prog w .any b0 31 v) (h : DataW.Trod enc Tryz.prog w 0 (fun _ => true) true 31 v d p) (hw : Fit Tryz.prog 31 d) :
    ∃ (ws : List Str) (al : List Vg.Arc) (a1 : Option Addr) (n1 c1 : Nat) (a2 : Option Addr) (n2 c2 : Nat), v = .agg #[.slice a1 n1 c1, .slice a2 n2 c2] ∧ GraphM w a1 n1 a2 n2 ws al := by
  obtain ⟨f0, f1, hu, t0, t1, hone⟩ := coneGraph
  obtain ⟨b0, hv⟩ := hv
  obtain ⟨v0, v1, y0, y1, n, rfl, rfl, _, h0, h1⟩ := Go.Joins.open_agg2 hu hone (by kernel_rfl) hv h
  have w0 := hw.parts hu (j := 0) (f := f0) rfl rfl
  have w1 := hw.parts hu (j := 1) (f := f1) rfl rfl
  rw [t0] at h0 w0
  rw [t1] at h1 w1
  obtain ⟨a1, n1, c1, rfl⟩ := open_slice1m Tryz.underlying22 h0
  obtain ⟨a2, n2, c2, rfl⟩ := open_slice1m Tryz.underlying29 h1
  obtain ⟨sg, hsg, _⟩ := open_Strs Tryz.underlying22 Tryz.underlying9 cellsSt (of_decide_eq_true (by kernel_rfl)) h0 w0
  obtain ⟨xs, hx⟩ := open_slM (R := ArcM) Tryz.underlying29 arcTy.cells (by omega) arcTy.bytes (arc_of_trod arcTy) h1 w1
  exact ⟨sg, xs, a1, n1, c1, a2, n2, c2, rfl, ⟨hsg, hx⟩⟩
end Go.Proofs.YtjmebijckcimoaaGreatDoor
