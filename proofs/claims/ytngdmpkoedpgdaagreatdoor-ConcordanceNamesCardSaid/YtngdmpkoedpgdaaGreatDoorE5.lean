/-
  What the program's start lays; strings and lists of strings that lie in memory.
-/
import Derived.Test.YtngdmpkoedpgdaaGreatDoorRows
import Derived.Test.YtngdmpkoedpgdaaGreatDoorAw5
import Derived.Test.YtngdmpkoedpgdaaGreatDoorOpC
import Derived.Stop.LaidErr
import Derived.LaidMore
import Derived.Stop.Joined
import Derived.MakeChecks
import Derived.Lib.LaidTab
namespace Go.Ap
open Go Go.RowKit Go.Deep Go.ChangeShapes Go.WideShapes Go.ChangeAt
section
variable {H : Type} {enc : TypeId × Value → H} {P : Program} {w : World}
theorem open_Str {t : TypeId} (ht : P.underlying t = some .string) {fuel : Nat} {s : ByteArray} {d : DataW H} {p : List MemPlace} (h : DataW.trod enc P w 0 (fun _ => true) true fuel t [.string s] = some (d, p)) (hw : Fit P t d) : ∃ l : Str, s = bs l ∧ l.length ≤ 281474976710656 := by
  obtain ⟨s', h1, h2, _⟩ := DataW.trod_string ht h
  simp only [List.cons.injEq, Value.string.injEq, and_true] at h1
  subst h1
  simp only [Prod.mk.injEq] at h2
  obtain ⟨rfl, _⟩ := h2
  exact ⟨s.data.toList, rfl, fit_str hw⟩
theorem strs_of {a : Option Addr} {n : Nat} {xs : List Str} (h : Sl StrF w a n xs) : StrsL w a n xs ∧ ∀ s ∈ xs, s.length ≤ 281474976710656 := by
  refine ⟨⟨h.len, h.small, fun k x hk => ?_⟩, fun s hs => ?_⟩
  · obtain ⟨b, o, v, h1, h2, h3, h4⟩ := h.cells k x hk
    exact ⟨b, o, v, h1, h2, h3⟩
  · obtain ⟨k, hk⟩ := List.getElem?_of_mem hs
    obtain ⟨b, o, v, h1, h2, h3, h4⟩ := h.cells k s hk
    exact h4
/-- a byte as a number -/
def U8R (_ : World) (v : Value) (x : Int) : Prop := v = .int .u8 x ∧ 0 ≤ x ∧ x ≤ 255
theorem u8_of_wf {n : Int} (h : (Lit.int .u8 n).wf = true) : 0 ≤ n ∧ n ≤ 255 := by
  have h1 : IntKind.u8.min = 0 := rfl
  have h2 : IntKind.u8.max = 255 := rfl
  simp only [Lit.wf, Bool.and_eq_true, decide_eq_true_eq, h1, h2] at h
  exact h
theorem u8_of_trod {e : TypeId} (he : P.underlying e = some (.int .u8)) : ∀ fuel v (d : DataW H) p, DataW.trod enc P w 0 (fun _ => true) true fuel e [v] = some (d, p) → Fit P e d → ∃ x, U8R w v x := by
  intro fuel v d p h _
  obtain ⟨z, h1, h2, h3⟩ := DataW.trod_int he h
  simp only [List.cons.injEq, and_true] at h1
  exact ⟨z, h1, u8_of_wf h3⟩
end
end Go.Ap
namespace Go.Proofs.YtngdmpkoedpgdaaGreatDoor
open Go Go.Ap Go.RowKit Go.Deep Go.ChangeShapes Go.WideShapes Go.ChangeAt Go.Shelf

theorem gPT : Tryz.prog.globalNamed "internal/strconv.uint64pow10" = some 8 := by kernel_rfl
theorem tabData_eq : (Rows.laid_internal_strconv_uint64pow10 : DataW Unit) = Lib.tabData .u64 Lib.pow10Tab := by kernel_rfl
theorem et_of_laid {w : World} {x y : String × DataW Unit} {rest : List (String × DataW Unit)} (h : laidMet Tryz.prog (x :: y :: ("internal/strconv.uint64pow10", Rows.laid_internal_strconv_uint64pow10) :: rest) w) : ET w := by
  have h3 := h.tail.tail
  rw [tabData_eq] at h3
  exact Lib.tabIs_of_head (t := 272) (n := 20) gPT (by kernel_rfl) Tryz.underlying272 Tryz.underlying194 (by kernel_rfl) (by kernel_rfl) h3
theorem open_Ss {H : Type} {enc : TypeId × Value → H} {w : World} {a : Option Addr} {n c fuel : Nat} {d : DataW H} {p : List MemPlace}
    (h : DataW.trod enc Tryz.prog w 0 (fun _ => true) true fuel 22 [.slice a n c] = some (d, p)) (hw : Fit Tryz.prog 22 d) : ∃ xs, StrsL w a n xs ∧ n ≤ c ∧ ∀ s ∈ xs, s.length ≤ 281474976710656 := by
  have hc := slice_cap Tryz.underlying22 h
  obtain ⟨xs, hx⟩ := open_Strs Tryz.underlying22 Tryz.underlying9 (by kernel_rfl) (of_decide_eq_true (by kernel_rfl)) h hw
  exact ⟨xs, hx.1, hc, hx.2⟩
theorem open_Us {H : Type} {enc : TypeId × Value → H} {w : World} {a : Option Addr} {n c fuel : Nat} {d : DataW H} {p : List MemPlace}
    (h : DataW.trod enc Tryz.prog w 0 (fun _ => true) true fuel 23 [.slice a n c] = some (d, p)) (hw : Fit Tryz.prog 23 d) : ∃ xs, Sl U8R w a n xs :=
  open_sl1 Tryz.underlying23 (by kernel_rfl) (of_decide_eq_true (by kernel_rfl)) (u8_of_trod Tryz.underlying5) h hw
end Go.Proofs.YtngdmpkoedpgdaaGreatDoor
