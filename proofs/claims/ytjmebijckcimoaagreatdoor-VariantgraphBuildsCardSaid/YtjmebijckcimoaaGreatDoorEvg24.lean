/-
  What the program's start lays: the two errors of the library; a start that fits; collations and graphs that lie in memory.
-/
import Derived.Test.YtjmebijckcimoaaGreatDoorRows
import Derived.Test.YtjmebijckcimoaaGreatDoorNab
import Derived.Test.YtjmebijckcimoaaGreatDoorOpC
import Derived.Test.YtjmebijckcimoaaGreatDoorVgk
import Derived.Stop.LaidErr
import Derived.LaidMore
import Derived.Stop.Joined
import Derived.MakeChecks
namespace Go.Ap
open Go Go.RowKit Go.Deep Go.ChangeShapes Go.WideShapes Go.ChangeAt
section
variable {H : Type} {enc : TypeId × Value → H} {P : Program} {w : World}
end
end Go.Ap
namespace Go.Proofs.YtjmebijckcimoaaGreatDoor
open Go Go.Ap Go.RowKit Go.Deep Go.ChangeShapes Go.WideShapes Go.ChangeAt Go.Shelf

theorem gES : Tryz.prog.globalNamed "strconv.ErrSyntax" = some 1 := by kernel_rfl
theorem tES : (Tryz.prog.globals[1]?).map (·.type) = some 109 := by kernel_rfl
theorem gER : Tryz.prog.globalNamed "strconv.ErrRange" = some 2 := by kernel_rfl
theorem tER : (Tryz.prog.globals[2]?).map (·.type) = some 109 := by kernel_rfl
theorem cellsEs : Tryz.prog.cellsOf 208 = 1 := by kernel_rfl
theorem cellsSt : Tryz.prog.cellsOf 9 = 1 := by kernel_rfl
theorem starEs : "*" ++ "errors.errorString" = "*errors.errorString" := by decide
theorem rowEs (u : TypeId) (h : Tryz.prog.typeName? 3 u = some "*errors.errorString") : u = 206 :=
  typeName_ptr_named (nm := "errors.errorString") (by rw [starEs]; kernel_rfl) (by kernel_rfl) (by decide) u (by rw [starEs]; exact h)
/-- what the rows list -/
abbrev laidL : List (String × DataW Unit) := [("math/bits.deBruijn32tab", Rows.laid_math_bits_deBruijn32tab), ("math/bits.deBruijn64tab", Rows.laid_math_bits_deBruijn64tab), ("internal/strconv.uint64pow10", Rows.laid_internal_strconv_uint64pow10), ("strconv.ErrRange", Rows.laid_strconv_ErrRange), ("strconv.ErrSyntax", Rows.laid_strconv_ErrSyntax)]
theorem ev_of_laid {w : World} (h : laidMet Tryz.prog laidL w) : EV w := by
  have h3 := h.tail.tail.tail
  obtain ⟨a0, s0, hv0, -, -, -⟩ := laid_sentinel h3 gER tER Tryz.underlying109 rowEs Tryz.underlying206 Tryz.underlying208 rfl rfl Tryz.underlying9 cellsEs cellsSt
  obtain ⟨a1, s1, hv1, -, -, -⟩ := laid_sentinel h3.tail gES tES Tryz.underlying109 rowEs Tryz.underlying206 Tryz.underlying208 rfl rfl Tryz.underlying9 cellsEs cellsSt
  exact ⟨⟨_, _, hv1⟩, ⟨_, _, hv0⟩⟩
/-- the door's own heap meets the condition -/
theorem door_met (os : Os) (args : Array Value) : laidMet Tryz.prog laidL ((World.doorLaid Tryz.prog 62 os).forCall (fun _ _ => 0) ⟨#[], args, []⟩).memory :=
  laidMet_of_run' 8 (by kernel_rfl) (by kernel_rfl)
theorem tokTy : TokTy Tryz.prog 65 :=
  ⟨⟨_, _, _, _, _, _, _, Tryz.underlying65, rfl, rfl, rfl, rfl, rfl, Tryz.underlying9, Tryz.underlying9, Tryz.underlying63, Tryz.underlying3, Tryz.underlying9, rfl, rfl, Tryz.underlying9, Tryz.underlying3,
    by kernel_rfl, by kernel_rfl, by kernel_rfl, by kernel_rfl, by kernel_rfl, by kernel_rfl, by kernel_rfl⟩, by kernel_rfl, of_decide_eq_true (by kernel_rfl)⟩
theorem coneColl : ∃ f0 f1 f2 f3 : Field, Tryz.prog.underlying 26 = some (.struct #[f0, f1, f2, f3]) ∧ f0.type = 9 ∧ f1.type = 22 ∧ f2.type = 23 ∧ f3.type = 24 ∧ oneCellFields Tryz.prog #[f0, f1, f2, f3] = true :=
  ⟨_, _, _, _, Tryz.underlying26, rfl, rfl, rfl, rfl, by kernel_rfl⟩
set_option maxRecDepth 100000 in
/-- a collation that reads as a datum -/
theorem open_Coll {H : Type} {enc : TypeId × Value → H} {w : World} {v : Value} {d : DataW H} {p : List MemPlace} (hv : ∃ b0, Value.okWide Tryz.prog w .any b0 26 v) (h : DataW.Trod enc Tryz.prog w 0 (fun _ => true) true 26 v d p) (hw : Fit Tryz.prog 26 d) :
    ∃ (x : Coll) (a1 : Option Addr) (n1 c1 : Nat) (a2 : Option Addr) (n2 c2 : Nat) (a3 : Option Addr) (n3 c3 : Nat), v = .agg #[.string (bs x.sec), .slice a1 n1 c1, .slice a2 n2 c2, .slice a3 n3 c3] ∧ CollM w a1 a2 a3 n1 n2 n3 x ∧ n1 ≤ c1 := by
  obtain ⟨f0, f1, f2, f3, hu, t0, t1, t2, t3, hone⟩ := coneColl
  obtain ⟨b0, hv⟩ := hv
  obtain ⟨v0, v1, v2, v3, y0, y1, y2, y3, n, rfl, rfl, _, h0, h1, h2, h3⟩ := Go.Joins.open_agg4 hu hone (by kernel_rfl) hv h
  have w0 := hw.parts hu (j := 0) (f := f0) rfl rfl
  have w1 := hw.parts hu (j := 1) (f := f1) rfl rfl
  have w2 := hw.parts hu (j := 2) (f := f2) rfl rfl
  have w3 := hw.parts hu (j := 3) (f := f3) rfl rfl
  rw [t0] at h0 w0
  rw [t1] at h1 w1
  rw [t2] at h2 w2
  rw [t3] at h3 w3
  obtain ⟨s0, rfl, l0⟩ := str_of_trod Tryz.underlying9 _ _ _ _ h0 w0
  obtain ⟨a1, n1, c1, rfl⟩ := open_slice1m Tryz.underlying22 h1
  obtain ⟨a2, n2, c2, rfl⟩ := open_slice1m Tryz.underlying23 h2
  obtain ⟨a3, n3, c3, rfl⟩ := open_slice1m Tryz.underlying24 h3
  obtain ⟨sg, hsg, lsg⟩ := open_Strs Tryz.underlying22 Tryz.underlying9 cellsSt (of_decide_eq_true (by kernel_rfl)) h1 w1
  obtain ⟨tk, htk⟩ := open_Toks2 Tryz.underlying23 Tryz.underlying67 tokTy (by kernel_rfl) (of_decide_eq_true (by kernel_rfl)) h2 w2
  obtain ⟨cl, hcl⟩ := open_Rows2 Tryz.underlying24 Tryz.underlying44 Tryz.underlying3 (by kernel_rfl) (by kernel_rfl) (of_decide_eq_true (by kernel_rfl)) (of_decide_eq_true (by kernel_rfl)) h3 w3
  exact ⟨⟨s0, sg, tk, cl⟩, a1, n1, c1, a2, n2, c2, a3, n3, c3, rfl, ⟨by simp only; omega, hsg, fun s hs => by have := lsg s hs; omega, htk, hcl⟩, slice_cap Tryz.underlying22 h1⟩
end Go.Proofs.YtjmebijckcimoaaGreatDoor
