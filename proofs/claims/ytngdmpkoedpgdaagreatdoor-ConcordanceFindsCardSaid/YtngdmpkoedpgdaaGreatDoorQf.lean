/-
  A row's parameters and laid names, opened: what the rows of lists and of finds want.
-/
import Derived.Test.YtngdmpkoedpgdaaGreatDoorRows
import Derived.Test.YtngdmpkoedpgdaaGreatDoorAw5
import Derived.Test.YtngdmpkoedpgdaaGreatDoorOpC
import Derived.Test.YtngdmpkoedpgdaaGreatDoorU8
import Derived.Stop.LaidErr
import Derived.LaidMore
import Derived.Stop.Joined
import Derived.MakeChecks
import Derived.Lib.LaidTab
import Derived.HandedShaped
import Derived.Shelf.Vars

/-
  What the program's start lays; strings and lists of strings that lie in memory.
-/








namespace Go.Ap
open Go Go.RowKit Go.Deep Go.ChangeShapes Go.WideShapes Go.ChangeAt
section
variable {H : Type} {enc : TypeId × Value → H} {P : Program} {w : World}
theorem open_Str {t : TypeId} (ht : P.underlying t = some .string) {fuel : Nat} {s : ByteArray} {d : DataW H} {p : List MemPlace} (h : DataW.trod enc P w 0 (fun _ => true) true fuel t [.string s] = some (d, p)) (hw : Fit P t d) : ∃ l : Str, s = bs l ∧ l.length ≤ 281474976710656 := by
  obtain ⟨s', h1, h2, _⟩ := DataW.trod_string ht h
  simp only [List.cons.injEq, Value.string.injEq, and_true] at h1
  subst h1
  simp only [Prod.mk.injEq] at h2
  obtain ⟨rfl, _⟩ := h2
  exact ⟨s.data.toList, rfl, fit_str hw⟩
theorem strs_of {a : Option Addr} {n : Nat} {xs : List Str} (h : Sl StrF w a n xs) : StrsL w a n xs ∧ ∀ s ∈ xs, s.length ≤ 281474976710656 := by
  refine ⟨⟨h.len, h.small, fun k x hk => ?_⟩, fun s hs => ?_⟩
  · obtain ⟨b, o, v, h1, h2, h3, h4⟩ := h.cells k x hk
    exact ⟨b, o, v, h1, h2, h3⟩
  · obtain ⟨k, hk⟩ := List.getElem?_of_mem hs
    obtain ⟨b, o, v, h1, h2, h3, h4⟩ := h.cells k s hk
    exact h4
/-- a byte as a number -/
def U8R (_ : World) (v : Value) (x : Int) : Prop := v = .int .u8 x ∧ 0 ≤ x ∧ x ≤ 255
theorem u8_of_wf {n : Int} (h : (Lit.int .u8 n).wf = true) : 0 ≤ n ∧ n ≤ 255 := by
  have h1 : IntKind.u8.min = 0 := rfl
  have h2 : IntKind.u8.max = 255 := rfl
  simp only [Lit.wf, Bool.and_eq_true, decide_eq_true_eq, h1, h2] at h
  exact h
theorem u8_of_trod {e : TypeId} (he : P.underlying e = some (.int .u8)) : ∀ fuel v (d : DataW H) p, DataW.trod enc P w 0 (fun _ => true) true fuel e [v] = some (d, p) → Fit P e d → ∃ x, U8R w v x := by
  intro fuel v d p h _
  obtain ⟨z, h1, h2, h3⟩ := DataW.trod_int he h
  simp only [List.cons.injEq, and_true] at h1
  exact ⟨z, h1, u8_of_wf h3⟩
end
end Go.Ap
namespace Go.Proofs.YtngdmpkoedpgdaaGreatDoor
open Go Go.Ap Go.RowKit Go.Deep Go.ChangeShapes Go.WideShapes Go.ChangeAt Go.Shelf

theorem gPT : Tryz.prog.globalNamed "internal/strconv.uint64pow10" = some 8 := by kernel_rfl
theorem tabData_eq : (Rows.laid_internal_strconv_uint64pow10 : DataW Unit) = Lib.tabData .u64 Lib.pow10Tab := by kernel_rfl
theorem et_of_laid {w : World} {x y : String × DataW Unit} {rest : List (String × DataW Unit)} (h : laidMet Tryz.prog (x :: y :: ("internal/strconv.uint64pow10", Rows.laid_internal_strconv_uint64pow10) :: rest) w) : ET w := by
  have h3 := h.tail.tail
  rw [tabData_eq] at h3
  exact Lib.tabIs_of_head (t := 272) (n := 20) gPT (by kernel_rfl) Tryz.underlying272 Tryz.underlying194 (by kernel_rfl) (by kernel_rfl) h3
theorem open_Ss {H : Type} {enc : TypeId × Value → H} {w : World} {a : Option Addr} {n c fuel : Nat} {d : DataW H} {p : List MemPlace}
    (h : DataW.trod enc Tryz.prog w 0 (fun _ => true) true fuel 22 [.slice a n c] = some (d, p)) (hw : Fit Tryz.prog 22 d) : ∃ xs, StrsL w a n xs ∧ n ≤ c ∧ ∀ s ∈ xs, s.length ≤ 281474976710656 := by
  have hc := slice_cap Tryz.underlying22 h
  obtain ⟨xs, hx⟩ := open_Strs Tryz.underlying22 Tryz.underlying9 (by kernel_rfl) (of_decide_eq_true (by kernel_rfl)) h hw
  exact ⟨xs, hx.1, hc, hx.2⟩
theorem open_Us {H : Type} {enc : TypeId × Value → H} {w : World} {a : Option Addr} {n c fuel : Nat} {d : DataW H} {p : List MemPlace}
    (h : DataW.trod enc Tryz.prog w 0 (fun _ => true) true fuel 23 [.slice a n c] = some (d, p)) (hw : Fit Tryz.prog 23 d) : ∃ xs, Sl U8R w a n xs :=
  open_sl1 Tryz.underlying23 (by kernel_rfl) (of_decide_eq_true (by kernel_rfl)) (u8_of_trod Tryz.underlying5) h hw
end Go.Proofs.YtngdmpkoedpgdaaGreatDoor
namespace Go.Proofs.YtngdmpkoedpgdaaGreatDoor
open Go Go.Ap Go.RowKit Go.Deep Go.ChangeShapes Go.WideShapes Go.ChangeAt Go.Shelf

theorem gES : Tryz.prog.globalNamed "strconv.ErrSyntax" = some 6 := by kernel_rfl
theorem tES : (Tryz.prog.globals[6]?).map (·.type) = some 115 := by kernel_rfl
theorem gER : Tryz.prog.globalNamed "strconv.ErrRange" = some 7 := by kernel_rfl
theorem tER : (Tryz.prog.globals[7]?).map (·.type) = some 115 := by kernel_rfl
theorem cellsEs : Tryz.prog.cellsOf 264 = 1 := by kernel_rfl
theorem cellsSt : Tryz.prog.cellsOf 9 = 1 := by kernel_rfl
theorem starEs : "*" ++ "errors.errorString" = "*errors.errorString" := by decide
theorem rowEs (u : TypeId) (h : Tryz.prog.typeName? 3 u = some "*errors.errorString") : u = 262 :=
  typeName_ptr_named (nm := "errors.errorString") (by rw [starEs]; kernel_rfl) (by kernel_rfl) (by decide) u (by rw [starEs]; exact h)
theorem ev_of_laid5 {w : World} {x y z : String × DataW Unit} {rest : List (String × DataW Unit)} (h : laidMet Tryz.prog (x :: y :: z :: ("strconv.ErrRange", Rows.laid_strconv_ErrRange) :: ("strconv.ErrSyntax", Rows.laid_strconv_ErrSyntax) :: rest) w) : EV w := by
  have h3 := h.tail.tail.tail
  obtain ⟨a0, s0, hv0, -, -, -⟩ := laid_sentinel h3 gER tER Tryz.underlying115 rowEs Tryz.underlying262 Tryz.underlying264 rfl rfl Tryz.underlying9 cellsEs cellsSt
  obtain ⟨a1, s1, hv1, -, -, -⟩ := laid_sentinel h3.tail gES tES Tryz.underlying115 rowEs Tryz.underlying262 Tryz.underlying264 rfl rfl Tryz.underlying9 cellsEs cellsSt
  exact ⟨⟨_, _, hv1⟩, ⟨_, _, hv0⟩⟩
theorem open_Is {H : Type} {enc : TypeId × Value → H} {w : World} {a : Option Addr} {n c fuel : Nat} {d : DataW H} {p : List MemPlace}
    (h : DataW.trod enc Tryz.prog w 0 (fun _ => true) true fuel 26 [.slice a n c] = some (d, p)) (hw : Fit Tryz.prog 26 d) : ∃ xs, Ints w a n xs :=
  open_Ints Tryz.underlying26 Tryz.underlying3 (by kernel_rfl) (of_decide_eq_true (by kernel_rfl)) h hw
end Go.Proofs.YtngdmpkoedpgdaaGreatDoor

namespace Go.Ap
open Go Go.RowKit Go.Deep Go.ChangeShapes Go.WideShapes Go.ChangeAt
section
variable {H : Type} {enc : TypeId × Value → H} {P : Program} {w : World}
/-- what a posting's type is -/
structure PostTy (P : Program) (e : TypeId) : Prop where
  ex : ∃ (f0 f1 f2 : Field) (ei : TypeId), P.underlying e = some (.struct #[f0, f1, f2]) ∧ f0.offset = 0 ∧ f1.offset = 1 ∧ f2.offset = 2 ∧
    P.underlying f0.type = some .string ∧ P.underlying f1.type = some .string ∧ P.underlying f2.type = some (.slice ei) ∧ P.underlying ei = some (.int .i64) ∧ P.cellsOf ei = 1 ∧ 1 ≤ P.bytesOf ei ∧
    P.cellsOf f0.type = 1 ∧ P.cellsOf f1.type = 1 ∧ P.cellsOf f2.type = 1
  cells : P.cellsOf e = 3
  bytes : 1 ≤ P.bytesOf e
theorem list3 {α : Type} {l : List α} (h : l.length = 3) : ∃ a b c, l = [a, b, c] := by
  match l, h with
  | [a, b, c], _ => exact ⟨a, b, c, rfl⟩
theorem post_of_trod {e : TypeId} (hT : PostTy P e) : ∀ fuel b o cs (d : DataW H) p, w.cells? 0 ⟨b, o, none⟩ 3 = some cs → DataW.trod enc P w 0 (fun _ => true) true fuel e cs = some (d, p) → Fit P e d → ∃ x, PostM w b o x := by
  intro fuel b o cs d p hc h hf
  obtain ⟨f0, f1, f2, ei, he, o0, o1, o2, u0, u1, u2, ui, ki, bi, k0, k1, k2⟩ := hT.ex
  obtain ⟨hlen, hcell⟩ := cells_plain hc
  obtain ⟨c0, c1, c2, rfl⟩ := list3 hlen
  obtain ⟨xs, n, _, hx, _, hxl, hfld⟩ := DataW.trod_struct he h
  simp only [Prod.mk.injEq] at hx
  obtain ⟨rfl, _⟩ := hx
  have t0 := hfld 0 f0 rfl
  rw [o0, k0] at t0
  have t1 := hfld 1 f1 rfl
  rw [o1, k1] at t1
  have t2 := hfld 2 f2 rfl
  rw [o2, k2] at t2
  simp only [List.size_toArray, List.length_cons, List.length_nil] at hxl
  have g : ∀ i, i < 3 → ∃ y, xs[i]? = some y := fun i hi => ⟨_, List.getElem?_eq_getElem (show i < xs.length by omega)⟩
  obtain ⟨y0, e0⟩ := g 0 (by omega)
  rw [e0] at t0
  obtain ⟨y1, e1⟩ := g 1 (by omega)
  rw [e1] at t1
  obtain ⟨y2, e2⟩ := g 2 (by omega)
  rw [e2] at t2
  have m : ∀ (i : Nat) (y : DataW H × List MemPlace), xs[i]? = some y → (xs.map (·.1))[i]? = some y.1 := fun i y hy => by rw [List.getElem?_map, hy]; rfl
  have w0 := hf.parts he (j := 0) (f := f0) rfl (m 0 _ e0)
  have w1 := hf.parts he (j := 1) (f := f1) rfl (m 1 _ e1)
  have w2 := hf.parts he (j := 2) (f := f2) rfl (m 2 _ e2)
  simp only [List.drop_zero, List.drop_succ_cons, List.take_succ_cons, List.take_zero] at t0 t1 t2
  obtain ⟨s0, a0, b0⟩ := str_of_trod u0 _ _ _ _ t0 w0
  obtain ⟨s1, a1, b1⟩ := str_of_trod u1 _ _ _ _ t1 w1
  obtain ⟨a, n2, k, rfl⟩ := open_slice1m u2 t2
  obtain ⟨ls, hls⟩ := open_Ints u2 ui ki bi t2 w2
  refine ⟨((s0, s1), ls), a, k, ?_, ?_, ?_, ?_, ?_, ?_⟩
  · have := hcell 0 c0 rfl; rw [Nat.add_zero] at this; rw [this, a0]; rfl
  · rw [hcell 1 c1 rfl, a1]; rfl
  · rw [hcell 2 _ rfl]; simp only; rw [hls.len]
  · simp only; omega
  · simp only; omega
  · simp only; rw [hls.len]; exact hls
end
end Go.Ap
namespace Go.Proofs.YtngdmpkoedpgdaaGreatDoor
open Go Go.Ap Go.RowKit Go.Deep Go.ChangeShapes Go.WideShapes Go.ChangeAt Go.Shelf
theorem postTy : PostTy Tryz.prog 37 :=
  ⟨⟨_, _, _, _, Tryz.underlying37, rfl, rfl, rfl, Tryz.underlying9, Tryz.underlying9, Tryz.underlying26, Tryz.underlying3, by kernel_rfl, of_decide_eq_true (by kernel_rfl), by kernel_rfl, by kernel_rfl, by kernel_rfl⟩, by kernel_rfl, of_decide_eq_true (by kernel_rfl)⟩
theorem open_Ps {H : Type} {enc : TypeId × Value → H} {w : World} {a : Option Addr} {n c fuel : Nat} {d : DataW H} {p : List MemPlace}
    (h : DataW.trod enc Tryz.prog w 0 (fun _ => true) true fuel 27 [.slice a n c] = some (d, p)) (hw : Fit Tryz.prog 27 d) : ∃ xs, Posts w a n xs ∧ n ≤ c := by
  obtain ⟨xs, hx⟩ := open_slM (R := PostM) Tryz.underlying27 postTy.cells (by omega) postTy.bytes (post_of_trod postTy) h hw
  exact ⟨xs, hx, slice_cap Tryz.underlying27 h⟩
theorem posts_of_trod {H : Type} {enc : TypeId × Value → H} {w : World} : ∀ fuel v (d : DataW H) p, DataW.trod enc Tryz.prog w 0 (fun _ => true) true fuel 27 [v] = some (d, p) → Fit Tryz.prog 27 d → ∃ x, PostsR w v x := by
  intro fuel v d p h hf
  obtain ⟨a, n, c, rfl⟩ := open_slice1m Tryz.underlying27 h
  obtain ⟨xs, hx, _⟩ := open_Ps h hf
  exact ⟨xs, a, n, c, rfl, hx⟩
theorem open_Ps2 {H : Type} {enc : TypeId × Value → H} {w : World} {a : Option Addr} {n c fuel : Nat} {d : DataW H} {p : List MemPlace}
    (h : DataW.trod enc Tryz.prog w 0 (fun _ => true) true fuel 52 [.slice a n c] = some (d, p)) (hw : Fit Tryz.prog 52 d) : ∃ xs, Posts2 w a n xs :=
  open_sl1 Tryz.underlying52 (by kernel_rfl) (of_decide_eq_true (by kernel_rfl)) posts_of_trod h hw
end Go.Proofs.YtngdmpkoedpgdaaGreatDoor

namespace Go.Ap
open Go
/-- the wrap with a premise and the world's shape -/
theorem returns_and_shaped {H : Type} {enc : TypeId × Value → H} {a : Assume} {C : Checked} {os : Os} {f : FuncId} {fn : Func} {s : ChangeSpec} {conds : List PathCond} {apart fresh handsOn again : Bool} {X : World → Array Value → Prop}
    (hX : ∀ (w w' : World) (args : Array Value), w.heap = w'.heap → X w args → X w' args)
    (own : ownKnob C.prog.godebug = none) (started : os.Started) (noInit : C.prog.inits.idxOf? f = none) (hfn : C.prog.funcs[f]? = some fn)
    (witness : ∃ (w : World) (tape : Tape) (i : Input), w.os = os ∧ (w.forCall tape i).Shaped C.prog ∧ i.vars = [] ∧ Input.okWide C.prog (w.forCall tape i) .any w.heap.size f i ∧
      ((s.pre enc C.prog fn conds apart (w.forCall tape i).memory i.args ∧ X (w.forCall tape i).memory i.args) ∧ sizedMet enc C.prog fn (OpenSpec.ofChange s) apart (w.forCall tape i).memory i.args) ∧ a.holds C.prog (lone (Frame.enter C.prog f i.args .normal) [] (w.forCall tape i)))
    (contract : ∀ (W : World) (base : Nat) (args : Array Value) (ds gs : List (DataW H)) (before : List MemPlace),
      (∀ (j : Nat) t v, fn.params[j]? = some t → args[j]? = some v → Value.okWide C.prog W .any base t v) →
      DataW.Whole enc C.prog fn.params.toList s.vars apart W args.toList ds gs before →
      (DataW.weightsEach C.prog (fn.params.toList ++ s.plain.varTypes C.prog) (ds ++ gs)).all (· ≤ reachBytes) = true → X W args → W.ShapedOpen C.prog →
      Calls C.prog f args W fun e W' => ∃ v, e = .returned v ∧ s.post enc C.prog fn apart fresh handsOn again W args v W') :
    ReturnsInHanded a C os f .any (fun w args => (s.pre enc C.prog fn conds apart w args ∧ X w args) ∧ sizedMet enc C.prog fn (OpenSpec.ofChange s) apart w args) (s.post enc C.prog fn apart fresh handsOn again) := by
  refine returnsInHanded_of_calls own started noInit witness ?_
  intro w tape i _ hsh _ hok hpre _
  obtain ⟨_, _, _, fn', hfn', _, _, _, _, hval⟩ := hok
  have e : fn' = fn := Option.some.inj (hfn'.symm.trans hfn)
  subst e
  obtain ⟨⟨⟨ds, gs, before, hw, _⟩, hx⟩, hz⟩ := hpre
  have hw' := DataW.Whole.of_heap (w' := w.forCall tape i) (by rfl) hw
  refine (contract (w.forCall tape i) w.heap.size i.args ds gs before hval hw' (hz.weights hw) (hX _ _ _ (by rfl) hx) hsh).mono fun e W' ⟨v, he, hp⟩ => ?_
  subst he
  exact ChangeSpec.post_blind hp
end Go.Ap
namespace Go.Proofs.YtngdmpkoedpgdaaGreatDoor
open Go Go.Ap Go.RowKit Go.Deep Go.ChangeShapes Go.WideShapes Go.ChangeAt Go.Shelf
theorem ev_of_laid7 {w : World} {x y z u : String × DataW Unit} {rest : List (String × DataW Unit)} (h : laidMet Tryz.prog (x :: y :: z :: u :: ("strconv.ErrRange", Rows.laid_strconv_ErrRange) :: ("strconv.ErrSyntax", Rows.laid_strconv_ErrSyntax) :: rest) w) : EV w := by
  have h3 := h.tail.tail.tail.tail
  obtain ⟨a0, s0, hv0, -, -, -⟩ := laid_sentinel h3 gER tER Tryz.underlying115 rowEs Tryz.underlying262 Tryz.underlying264 rfl rfl Tryz.underlying9 cellsEs cellsSt
  obtain ⟨a1, s1, hv1, -, -, -⟩ := laid_sentinel h3.tail gES tES Tryz.underlying115 rowEs Tryz.underlying262 Tryz.underlying264 rfl rfl Tryz.underlying9 cellsEs cellsSt
  exact ⟨⟨_, _, hv1⟩, ⟨_, _, hv0⟩⟩
theorem em_of_shaped {w : World} (h : w.ShapedOpen Tryz.prog) : ∃ m, w.cell? ⟨3, 0, none⟩ = some (.int .i64 m) :=
  Go.Proofs.cell_of_shapedOpen_int (zero := #[.int .i64 0]) (t := 3) h (of_decide_eq_true (by kernel_rfl)) (by kernel_rfl) rfl (by kernel_rfl) (by kernel_rfl) Tryz.underlying3
end Go.Proofs.YtngdmpkoedpgdaaGreatDoor
