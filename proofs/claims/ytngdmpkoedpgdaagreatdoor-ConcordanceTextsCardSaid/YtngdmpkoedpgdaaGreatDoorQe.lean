import Derived.Test.YtngdmpkoedpgdaaGreatDoorRows
import Derived.Test.YtngdmpkoedpgdaaGreatDoorAw5
import Derived.Test.YtngdmpkoedpgdaaGreatDoorOpC
import Derived.Stop.LaidErr
import Derived.LaidMore
import Derived.Stop.Joined
import Derived.MakeChecks
import Derived.Lib.LaidTab
import Derived.Test.YtngdmpkoedpgdaaGreatDoorNa5

/-
  What the program's start lays; strings and lists of strings that lie in memory.
-/








namespace Go.Ap
open Go Go.RowKit Go.Deep Go.ChangeShapes Go.WideShapes Go.ChangeAt
section
variable {H : Type} {enc : TypeId × Value → H} {P : Program} {w : World}
theorem open_Str {t : TypeId} (ht : P.underlying t = some .string) {fuel : Nat} {s : ByteArray} {d : DataW H} {p : List MemPlace} (h : DataW.trod enc P w 0 (fun _ => true) true fuel t [.string s] = some (d, p)) (hw : Fit P t d) : ∃ l : Str, s = bs l ∧ l.length ≤ 281474976710656 := by
  obtain ⟨s', h1, h2, _⟩ := DataW.trod_string ht h
  simp only [List.cons.injEq, Value.string.injEq, and_true] at h1
  subst h1
  simp only [Prod.mk.injEq] at h2
  obtain ⟨rfl, _⟩ := h2
  exact ⟨s.data.toList, rfl, fit_str hw⟩
theorem strs_of {a : Option Addr} {n : Nat} {xs : List Str} (h : Sl StrF w a n xs) : StrsL w a n xs ∧ ∀ s ∈ xs, s.length ≤ 281474976710656 := by
  refine ⟨⟨h.len, h.small, fun k x hk => ?_⟩, fun s hs => ?_⟩
  · obtain ⟨b, o, v, h1, h2, h3, h4⟩ := h.cells k x hk
    exact ⟨b, o, v, h1, h2, h3⟩
  · obtain ⟨k, hk⟩ := List.getElem?_of_mem hs
    obtain ⟨b, o, v, h1, h2, h3, h4⟩ := h.cells k s hk
    exact h4
/-- a byte as a number -/
def U8R (_ : World) (v : Value) (x : Int) : Prop := v = .int .u8 x ∧ 0 ≤ x ∧ x ≤ 255
theorem u8_of_wf {n : Int} (h : (Lit.int .u8 n).wf = true) : 0 ≤ n ∧ n ≤ 255 := by
  have h1 : IntKind.u8.min = 0 := rfl
  have h2 : IntKind.u8.max = 255 := rfl
  simp only [Lit.wf, Bool.and_eq_true, decide_eq_true_eq, h1, h2] at h
  exact h
theorem u8_of_trod {e : TypeId} (he : P.underlying e = some (.int .u8)) : ∀ fuel v (d : DataW H) p, DataW.trod enc P w 0 (fun _ => true) true fuel e [v] = some (d, p) → Fit P e d → ∃ x, U8R w v x := by
  intro fuel v d p h _
  obtain ⟨z, h1, h2, h3⟩ := DataW.trod_int he h
  simp only [List.cons.injEq, and_true] at h1
  exact ⟨z, h1, u8_of_wf h3⟩
end
end Go.Ap
namespace Go.Proofs.YtngdmpkoedpgdaaGreatDoor
open Go Go.Ap Go.RowKit Go.Deep Go.ChangeShapes Go.WideShapes Go.ChangeAt Go.Shelf

theorem gPT : Tryz.prog.globalNamed "internal/strconv.uint64pow10" = some 8 := by kernel_rfl
theorem tabData_eq : (Rows.laid_internal_strconv_uint64pow10 : DataW Unit) = Lib.tabData .u64 Lib.pow10Tab := by kernel_rfl
theorem et_of_laid {w : World} {x y : String × DataW Unit} {rest : List (String × DataW Unit)} (h : laidMet Tryz.prog (x :: y :: ("internal/strconv.uint64pow10", Rows.laid_internal_strconv_uint64pow10) :: rest) w) : ET w := by
  have h3 := h.tail.tail
  rw [tabData_eq] at h3
  exact Lib.tabIs_of_head (t := 272) (n := 20) gPT (by kernel_rfl) Tryz.underlying272 Tryz.underlying194 (by kernel_rfl) (by kernel_rfl) h3
theorem open_Ss {H : Type} {enc : TypeId × Value → H} {w : World} {a : Option Addr} {n c fuel : Nat} {d : DataW H} {p : List MemPlace}
    (h : DataW.trod enc Tryz.prog w 0 (fun _ => true) true fuel 22 [.slice a n c] = some (d, p)) (hw : Fit Tryz.prog 22 d) : ∃ xs, StrsL w a n xs ∧ n ≤ c ∧ ∀ s ∈ xs, s.length ≤ 281474976710656 := by
  have hc := slice_cap Tryz.underlying22 h
  obtain ⟨xs, hx⟩ := open_Strs Tryz.underlying22 Tryz.underlying9 (by kernel_rfl) (of_decide_eq_true (by kernel_rfl)) h hw
  exact ⟨xs, hx.1, hc, hx.2⟩
theorem open_Us {H : Type} {enc : TypeId × Value → H} {w : World} {a : Option Addr} {n c fuel : Nat} {d : DataW H} {p : List MemPlace}
    (h : DataW.trod enc Tryz.prog w 0 (fun _ => true) true fuel 23 [.slice a n c] = some (d, p)) (hw : Fit Tryz.prog 23 d) : ∃ xs, Sl U8R w a n xs :=
  open_sl1 Tryz.underlying23 (by kernel_rfl) (of_decide_eq_true (by kernel_rfl)) (u8_of_trod Tryz.underlying5) h hw
end Go.Proofs.YtngdmpkoedpgdaaGreatDoor

/-
  What the program's start lays (the errors of strconv); collations, words of an edition and postings that lie in memory.
-/


namespace Go.Ap
open Go Go.RowKit Go.Deep Go.ChangeShapes Go.WideShapes Go.ChangeAt
section
variable {H : Type} {enc : TypeId × Value → H} {P : Program} {w : World}
theorem list7 {α : Type} {l : List α} (h : l.length = 7) : ∃ a b c d e f g, l = [a, b, c, d, e, f, g] := by
  match l, h with
  | [a, b, c, d, e, f, g], _ => exact ⟨a, b, c, d, e, f, g, rfl⟩
/-- what a word's type is -/
structure WrdTy (P : Program) (e : TypeId) : Prop where
  ex : ∃ f0 f1 f2 f3 f4 f5 f6 : Field, P.underlying e = some (.struct #[f0, f1, f2, f3, f4, f5, f6]) ∧ f0.offset = 0 ∧ f1.offset = 1 ∧ f2.offset = 2 ∧ f3.offset = 3 ∧ f4.offset = 4 ∧ f5.offset = 5 ∧ f6.offset = 6 ∧
    P.underlying f0.type = some .string ∧ P.underlying f1.type = some (.int .i64) ∧ P.underlying f2.type = some (.int .i64) ∧ P.underlying f3.type = some (.int .i64) ∧ P.underlying f4.type = some .bool ∧ P.underlying f5.type = some .bool ∧ P.underlying f6.type = some .string ∧
    P.cellsOf f0.type = 1 ∧ P.cellsOf f1.type = 1 ∧ P.cellsOf f2.type = 1 ∧ P.cellsOf f3.type = 1 ∧ P.cellsOf f4.type = 1 ∧ P.cellsOf f5.type = 1 ∧ P.cellsOf f6.type = 1
  cells : P.cellsOf e = 7
  bytes : 1 ≤ P.bytesOf e
theorem wrd_of_trod {e : TypeId} (hT : WrdTy P e) : ∀ fuel b o cs (d : DataW H) p, w.cells? 0 ⟨b, o, none⟩ 7 = some cs → DataW.trod enc P w 0 (fun _ => true) true fuel e cs = some (d, p) → Fit P e d → ∃ x, WrdM w b o x := by
  intro fuel b o cs d p hc h hf
  obtain ⟨f0, f1, f2, f3, f4, f5, f6, he, o0, o1, o2, o3, o4, o5, o6, u0, u1, u2, u3, u4, u5, u6, k0, k1, k2, k3, k4, k5, k6⟩ := hT.ex
  obtain ⟨hlen, hcell⟩ := cells_plain hc
  obtain ⟨c0, c1, c2, c3, c4, c5, c6, rfl⟩ := list7 hlen
  obtain ⟨xs, n, _, hx, _, hxl, hfld⟩ := DataW.trod_struct he h
  simp only [Prod.mk.injEq] at hx
  obtain ⟨rfl, _⟩ := hx
  have t0 := hfld 0 f0 rfl
  rw [o0, k0] at t0
  have t1 := hfld 1 f1 rfl
  rw [o1, k1] at t1
  have t2 := hfld 2 f2 rfl
  rw [o2, k2] at t2
  have t3 := hfld 3 f3 rfl
  rw [o3, k3] at t3
  have t4 := hfld 4 f4 rfl
  rw [o4, k4] at t4
  have t5 := hfld 5 f5 rfl
  rw [o5, k5] at t5
  have t6 := hfld 6 f6 rfl
  rw [o6, k6] at t6
  simp only [List.size_toArray, List.length_cons, List.length_nil] at hxl
  have g : ∀ i, i < 7 → ∃ y, xs[i]? = some y := fun i hi => ⟨_, List.getElem?_eq_getElem (show i < xs.length by omega)⟩
  obtain ⟨y0, e0⟩ := g 0 (by omega)
  rw [e0] at t0
  obtain ⟨y1, e1⟩ := g 1 (by omega)
  rw [e1] at t1
  obtain ⟨y2, e2⟩ := g 2 (by omega)
  rw [e2] at t2
  obtain ⟨y3, e3⟩ := g 3 (by omega)
  rw [e3] at t3
  obtain ⟨y4, e4⟩ := g 4 (by omega)
  rw [e4] at t4
  obtain ⟨y5, e5⟩ := g 5 (by omega)
  rw [e5] at t5
  obtain ⟨y6, e6⟩ := g 6 (by omega)
  rw [e6] at t6
  have m : ∀ (i : Nat) (y : DataW H × List MemPlace), xs[i]? = some y → (xs.map (·.1))[i]? = some y.1 := fun i y hy => by rw [List.getElem?_map, hy]; rfl
  have w0 := hf.parts he (j := 0) (f := f0) rfl (m 0 _ e0)
  have w6 := hf.parts he (j := 6) (f := f6) rfl (m 6 _ e6)
  simp only [List.drop_zero, List.drop_succ_cons, List.take_succ_cons, List.take_zero] at t0 t1 t2 t3 t4 t5 t6
  obtain ⟨s0, a0, b0⟩ := str_of_trod u0 _ _ _ _ t0 w0
  obtain ⟨s6, a6, b6⟩ := str_of_trod u6 _ _ _ _ t6 w6
  obtain ⟨z1, a1, _, _⟩ := DataW.trod_int u1 t1
  obtain ⟨z2, a2, _, _⟩ := DataW.trod_int u2 t2
  obtain ⟨z3, a3, _, _⟩ := DataW.trod_int u3 t3
  obtain ⟨z4, a4, _⟩ := DataW.trod_bool u4 t4
  obtain ⟨z5, a5, _⟩ := DataW.trod_bool u5 t5
  simp only [List.cons.injEq, and_true] at a1 a2 a3 a4 a5
  refine ⟨⟨s0, z1, z2, z3, z4, z5, s6⟩, ?_, ?_, ?_, ?_, ?_, ?_, ?_, b6⟩
  · have := hcell 0 c0 rfl; rw [Nat.add_zero] at this; rw [this, a0]; rfl
  · rw [hcell 1 c1 rfl, a1]
  · rw [hcell 2 c2 rfl, a2]
  · rw [hcell 3 c3 rfl, a3]
  · rw [hcell 4 c4 rfl, a4]
  · rw [hcell 5 c5 rfl, a5]
  · rw [hcell 6 c6 rfl, a6]; rfl
end
end Go.Ap
namespace Go.Proofs.YtngdmpkoedpgdaaGreatDoor
open Go Go.Ap Go.RowKit Go.Deep Go.ChangeShapes Go.WideShapes Go.ChangeAt Go.Shelf

theorem gES : Tryz.prog.globalNamed "strconv.ErrSyntax" = some 6 := by kernel_rfl
theorem tES : (Tryz.prog.globals[6]?).map (·.type) = some 115 := by kernel_rfl
theorem gER : Tryz.prog.globalNamed "strconv.ErrRange" = some 7 := by kernel_rfl
theorem tER : (Tryz.prog.globals[7]?).map (·.type) = some 115 := by kernel_rfl
theorem cellsEs : Tryz.prog.cellsOf 264 = 1 := by kernel_rfl
theorem cellsSt : Tryz.prog.cellsOf 9 = 1 := by kernel_rfl
theorem starEs : "*" ++ "errors.errorString" = "*errors.errorString" := by decide
theorem rowEs (u : TypeId) (h : Tryz.prog.typeName? 3 u = some "*errors.errorString") : u = 262 :=
  typeName_ptr_named (nm := "errors.errorString") (by rw [starEs]; kernel_rfl) (by kernel_rfl) (by decide) u (by rw [starEs]; exact h)
theorem ev_of_laid5 {w : World} {x y z : String × DataW Unit} {rest : List (String × DataW Unit)} (h : laidMet Tryz.prog (x :: y :: z :: ("strconv.ErrRange", Rows.laid_strconv_ErrRange) :: ("strconv.ErrSyntax", Rows.laid_strconv_ErrSyntax) :: rest) w) : EV w := by
  have h3 := h.tail.tail.tail
  obtain ⟨a0, s0, hv0, -, -, -⟩ := laid_sentinel h3 gER tER Tryz.underlying115 rowEs Tryz.underlying262 Tryz.underlying264 rfl rfl Tryz.underlying9 cellsEs cellsSt
  obtain ⟨a1, s1, hv1, -, -, -⟩ := laid_sentinel h3.tail gES tES Tryz.underlying115 rowEs Tryz.underlying262 Tryz.underlying264 rfl rfl Tryz.underlying9 cellsEs cellsSt
  exact ⟨⟨_, _, hv1⟩, ⟨_, _, hv0⟩⟩
theorem tokTy : TokTy Tryz.prog 173 :=
  ⟨⟨_, _, _, _, _, _, _, Tryz.underlying173, rfl, rfl, rfl, rfl, rfl, Tryz.underlying9, Tryz.underlying9, Tryz.underlying171, Tryz.underlying3, Tryz.underlying9, rfl, rfl, Tryz.underlying9, Tryz.underlying3,
    by kernel_rfl, by kernel_rfl, by kernel_rfl, by kernel_rfl, by kernel_rfl, by kernel_rfl, by kernel_rfl⟩, by kernel_rfl, of_decide_eq_true (by kernel_rfl)⟩
theorem coneColl : ∃ f0 f1 f2 f3 : Field, Tryz.prog.underlying 68 = some (.struct #[f0, f1, f2, f3]) ∧ f0.type = 9 ∧ f1.type = 22 ∧ f2.type = 65 ∧ f3.type = 66 ∧ oneCellFields Tryz.prog #[f0, f1, f2, f3] = true :=
  ⟨_, _, _, _, Tryz.underlying68, rfl, rfl, rfl, rfl, by kernel_rfl⟩
set_option maxRecDepth 100000 in
/-- a collation that reads as a datum -/
theorem open_Coll {H : Type} {enc : TypeId × Value → H} {w : World} {v : Value} {d : DataW H} {p : List MemPlace} (hv : ∃ b0, Value.okWide Tryz.prog w .any b0 68 v) (h : DataW.Trod enc Tryz.prog w 0 (fun _ => true) true 68 v d p) (hw : Fit Tryz.prog 68 d) :
    ∃ (x : Coll) (a1 : Option Addr) (n1 c1 : Nat) (a2 : Option Addr) (n2 c2 : Nat) (a3 : Option Addr) (n3 c3 : Nat), v = .agg #[.string (bs x.sec), .slice a1 n1 c1, .slice a2 n2 c2, .slice a3 n3 c3] ∧ CollM w a1 a2 a3 n1 n2 n3 x ∧ n1 ≤ c1 := by
  obtain ⟨f0, f1, f2, f3, hu, t0, t1, t2, t3, hone⟩ := coneColl
  obtain ⟨b0, hv⟩ := hv
  obtain ⟨v0, v1, v2, v3, y0, y1, y2, y3, n, rfl, rfl, _, h0, h1, h2, h3⟩ := Go.Joins.open_agg4 hu hone (by kernel_rfl) hv h
  have w0 := hw.parts hu (j := 0) (f := f0) rfl rfl
  have w1 := hw.parts hu (j := 1) (f := f1) rfl rfl
  have w2 := hw.parts hu (j := 2) (f := f2) rfl rfl
  have w3 := hw.parts hu (j := 3) (f := f3) rfl rfl
  rw [t0] at h0 w0
  rw [t1] at h1 w1
  rw [t2] at h2 w2
  rw [t3] at h3 w3
  obtain ⟨s0, rfl, l0⟩ := str_of_trod Tryz.underlying9 _ _ _ _ h0 w0
  obtain ⟨a1, n1, c1, rfl⟩ := open_slice1m Tryz.underlying22 h1
  obtain ⟨a2, n2, c2, rfl⟩ := open_slice1m Tryz.underlying65 h2
  obtain ⟨a3, n3, c3, rfl⟩ := open_slice1m Tryz.underlying66 h3
  obtain ⟨sg, hsg, lsg⟩ := open_Strs Tryz.underlying22 Tryz.underlying9 cellsSt (of_decide_eq_true (by kernel_rfl)) h1 w1
  obtain ⟨tk, htk⟩ := open_Toks2 Tryz.underlying65 Tryz.underlying128 tokTy (by kernel_rfl) (of_decide_eq_true (by kernel_rfl)) h2 w2
  obtain ⟨cl, hcl⟩ := open_Rows2 Tryz.underlying66 Tryz.underlying26 Tryz.underlying3 (by kernel_rfl) (by kernel_rfl) (of_decide_eq_true (by kernel_rfl)) (of_decide_eq_true (by kernel_rfl)) h3 w3
  exact ⟨⟨s0, sg, tk, cl⟩, a1, n1, c1, a2, n2, c2, a3, n3, c3, rfl, ⟨by simp only; omega, hsg, fun s hs => by have := lsg s hs; omega, htk, hcl⟩, slice_cap Tryz.underlying22 h1⟩
theorem wrdTy : WrdTy Tryz.prog 74 :=
  ⟨⟨_, _, _, _, _, _, _, Tryz.underlying74, rfl, rfl, rfl, rfl, rfl, rfl, rfl, Tryz.underlying9, Tryz.underlying3, Tryz.underlying3, Tryz.underlying3, Tryz.underlying4, Tryz.underlying4, Tryz.underlying9,
    by kernel_rfl, by kernel_rfl, by kernel_rfl, by kernel_rfl, by kernel_rfl, by kernel_rfl, by kernel_rfl⟩, by kernel_rfl, of_decide_eq_true (by kernel_rfl)⟩
theorem open_Ws {H : Type} {enc : TypeId × Value → H} {w : World} {a : Option Addr} {n c fuel : Nat} {d : DataW H} {p : List MemPlace}
    (h : DataW.trod enc Tryz.prog w 0 (fun _ => true) true fuel 69 [.slice a n c] = some (d, p)) (hw : Fit Tryz.prog 69 d) : ∃ xs, Wrds w a n xs :=
  open_slM (R := WrdM) Tryz.underlying69 wrdTy.cells (by omega) wrdTy.bytes (wrd_of_trod wrdTy) h hw
theorem open_Is {H : Type} {enc : TypeId × Value → H} {w : World} {a : Option Addr} {n c fuel : Nat} {d : DataW H} {p : List MemPlace}
    (h : DataW.trod enc Tryz.prog w 0 (fun _ => true) true fuel 26 [.slice a n c] = some (d, p)) (hw : Fit Tryz.prog 26 d) : ∃ xs, Ints w a n xs :=
  open_Ints Tryz.underlying26 Tryz.underlying3 (by kernel_rfl) (of_decide_eq_true (by kernel_rfl)) h hw
end Go.Proofs.YtngdmpkoedpgdaaGreatDoor
