/-
  What the program's start lays: the two errors of the library; a start that fits; tokens and blocks that lie in memory read as lists.
-/
import Derived.Test.YtbahddjbncinbaaGreatDoorRows
import Derived.Test.YtbahddjbncinbaaGreatDoorNb
import Derived.Test.YtbahddjbncinbaaGreatDoorGq
import Derived.Test.YtbahddjbncinbaaGreatDoorOpC
import Derived.Stop.LaidErr
import Derived.LaidMore
import Derived.Stop.Joined
import Derived.MakeChecks
namespace Go.Ap
open Go Go.RowKit Go.Deep Go.ChangeShapes Go.WideShapes Go.ChangeAt
section
variable {H : Type} {enc : TypeId × Value → H} {P : Program} {w : World}
instance : Inhabited Blk := ⟨⟨0, 0, 0⟩⟩
theorem list3 {α : Type} {l : List α} (h : l.length = 3) : ∃ a b c, l = [a, b, c] := by
  match l, h with
  | [a, b, c], _ => exact ⟨a, b, c, rfl⟩
/-- what a block's type is -/
structure BlkTy (P : Program) (e : TypeId) : Prop where
  ex : ∃ (f0 f1 f2 : Field), P.underlying e = some (.struct #[f0, f1, f2]) ∧ f0.offset = 0 ∧ f1.offset = 1 ∧ f2.offset = 2 ∧ P.underlying f0.type = some (.int .i64) ∧ P.underlying f1.type = some (.int .i64) ∧ P.underlying f2.type = some (.int .i64) ∧
    P.cellsOf f0.type = 1 ∧ P.cellsOf f1.type = 1 ∧ P.cellsOf f2.type = 1
  cells : P.cellsOf e = 3
  bytes : 1 ≤ P.bytesOf e
/-- a block whose numbers are a machine's -/
def BlkM (w : World) (b o : Nat) (x : Blk) : Prop := BlkR w b o x ∧ I64 x.fst ∧ I64 x.snd ∧ I64 x.len
theorem blk_of_trod {e : TypeId} (hT : BlkTy P e) : ∀ fuel b o cs (d : DataW H) p, w.cells? 0 ⟨b, o, none⟩ 3 = some cs → DataW.trod enc P w 0 (fun _ => true) true fuel e cs = some (d, p) → Fit P e d → ∃ x, BlkM w b o x := by
  intro fuel b o cs d p hc h _
  obtain ⟨f0, f1, f2, he, o0, o1, o2, u0, u1, u2, k0, k1, k2⟩ := hT.ex
  obtain ⟨hlen, hcell⟩ := cells_plain hc
  obtain ⟨c0, c1, c2, rfl⟩ := list3 hlen
  obtain ⟨xs, n, _, hx, _, hxl, hfld⟩ := DataW.trod_struct he h
  simp only [Prod.mk.injEq] at hx
  obtain ⟨rfl, _⟩ := hx
  have t0 := hfld 0 f0 rfl
  have t1 := hfld 1 f1 rfl
  have t2 := hfld 2 f2 rfl
  rw [o0, k0] at t0
  rw [o1, k1] at t1
  rw [o2, k2] at t2
  simp only [List.size_toArray, List.length_cons, List.length_nil] at hxl
  have g : ∀ i, i < 3 → ∃ y, xs[i]? = some y := fun i hi => ⟨_, List.getElem?_eq_getElem (show i < xs.length by omega)⟩
  obtain ⟨y0, e0⟩ := g 0 (by omega)
  obtain ⟨y1, e1⟩ := g 1 (by omega)
  obtain ⟨y2, e2⟩ := g 2 (by omega)
  rw [e0] at t0
  rw [e1] at t1
  rw [e2] at t2
  simp only [List.drop_zero, List.drop_succ_cons, List.take_succ_cons, List.take_zero] at t0 t1 t2
  obtain ⟨z0, a0, _, b0⟩ := DataW.trod_int u0 t0
  obtain ⟨z1, a1, _, b1⟩ := DataW.trod_int u1 t1
  obtain ⟨z2, a2, _, b2⟩ := DataW.trod_int u2 t2
  simp only [List.cons.injEq, and_true] at a0 a1 a2
  refine ⟨⟨z0, z1, z2⟩, ⟨?_, ?_, ?_⟩, i64_of_wf b0, i64_of_wf b1, i64_of_wf b2⟩
  · have := hcell 0 _ rfl; rw [Nat.add_zero, a0] at this; exact this
  · rw [hcell 1 _ rfl, a1]
  · rw [hcell 2 _ rfl, a2]
end
end Go.Ap
namespace Go.Proofs.YtbahddjbncinbaaGreatDoor
open Go Go.Ap Go.RowKit Go.Deep Go.ChangeShapes Go.WideShapes Go.ChangeAt Go.Shelf

theorem gES : Tryz.prog.globalNamed "strconv.ErrSyntax" = some 0 := by kernel_rfl
theorem tES : (Tryz.prog.globals[0]?).map (·.type) = some 126 := by kernel_rfl
theorem gER : Tryz.prog.globalNamed "strconv.ErrRange" = some 1 := by kernel_rfl
theorem tER : (Tryz.prog.globals[1]?).map (·.type) = some 126 := by kernel_rfl
theorem cellsEs : Tryz.prog.cellsOf 181 = 1 := by kernel_rfl
theorem cellsSt : Tryz.prog.cellsOf 9 = 1 := by kernel_rfl
theorem starEs : "*" ++ "errors.errorString" = "*errors.errorString" := by decide
theorem rowEs (u : TypeId) (h : Tryz.prog.typeName? 3 u = some "*errors.errorString") : u = 179 :=
  typeName_ptr_named (nm := "errors.errorString") (by rw [starEs]; kernel_rfl) (by kernel_rfl) (by decide) u (by rw [starEs]; exact h)
/-- what the rows list -/
abbrev laidL : List (String × DataW Unit) := [("math/bits.deBruijn32tab", Rows.laid_math_bits_deBruijn32tab), ("math/bits.deBruijn64tab", Rows.laid_math_bits_deBruijn64tab), ("internal/strconv.uint64pow10", Rows.laid_internal_strconv_uint64pow10), ("strconv.ErrRange", Rows.laid_strconv_ErrRange), ("strconv.ErrSyntax", Rows.laid_strconv_ErrSyntax)]
theorem ev_of_laid {w : World} (h : laidMet Tryz.prog laidL w) : EV w := by
  have h3 := h.tail.tail.tail
  obtain ⟨a0, s0, hv0, -, -, -⟩ := laid_sentinel h3 gER tER Tryz.underlying126 rowEs Tryz.underlying179 Tryz.underlying181 rfl rfl Tryz.underlying9 cellsEs cellsSt
  obtain ⟨a1, s1, hv1, -, -, -⟩ := laid_sentinel h3.tail gES tES Tryz.underlying126 rowEs Tryz.underlying179 Tryz.underlying181 rfl rfl Tryz.underlying9 cellsEs cellsSt
  exact ⟨⟨_, _, hv1⟩, ⟨_, _, hv0⟩⟩
/-- the door's own heap meets the condition -/
theorem door_met (os : Os) (args : Array Value) : laidMet Tryz.prog laidL ((World.doorLaid Tryz.prog 62 os).forCall (fun _ _ => 0) ⟨#[], args, []⟩).memory :=
  laidMet_of_run' 8 (by kernel_rfl) (by kernel_rfl)
theorem tokTy : TokTy Tryz.prog 39 :=
  ⟨⟨_, _, _, _, _, _, _, Tryz.underlying39, rfl, rfl, rfl, rfl, rfl, Tryz.underlying9, Tryz.underlying9, Tryz.underlying37, Tryz.underlying3, Tryz.underlying9, rfl, rfl, Tryz.underlying9, Tryz.underlying3,
    by kernel_rfl, by kernel_rfl, by kernel_rfl, by kernel_rfl, by kernel_rfl, by kernel_rfl, by kernel_rfl⟩, by kernel_rfl, of_decide_eq_true (by kernel_rfl)⟩
theorem blkTy : BlkTy Tryz.prog 54 :=
  ⟨⟨_, _, _, Tryz.underlying54, rfl, rfl, rfl, Tryz.underlying3, Tryz.underlying3, Tryz.underlying3, by kernel_rfl, by kernel_rfl, by kernel_rfl⟩, by kernel_rfl, of_decide_eq_true (by kernel_rfl)⟩
theorem open_Tks {H : Type} {enc : TypeId × Value → H} {w : World} {a : Option Addr} {n c fuel : Nat} {d : DataW H} {p : List MemPlace}
    (h : DataW.trod enc Tryz.prog w 0 (fun _ => true) true fuel 22 [.slice a n c] = some (d, p)) (hw : Fit Tryz.prog 22 d) : ∃ xs, Toks w a n xs :=
  open_slM (R := TokM) Tryz.underlying22 tokTy.cells (by omega) tokTy.bytes (tok_of_trod tokTy) h hw
theorem open_Bks {H : Type} {enc : TypeId × Value → H} {w : World} {a : Option Addr} {n c fuel : Nat} {d : DataW H} {p : List MemPlace}
    (h : DataW.trod enc Tryz.prog w 0 (fun _ => true) true fuel 46 [.slice a n c] = some (d, p)) (hw : Fit Tryz.prog 46 d) : ∃ xs, SlM 3 BlkM w a n xs :=
  open_slM (R := BlkM) Tryz.underlying46 blkTy.cells (by omega) blkTy.bytes (blk_of_trod blkTy) h hw
end Go.Proofs.YtbahddjbncinbaaGreatDoor
