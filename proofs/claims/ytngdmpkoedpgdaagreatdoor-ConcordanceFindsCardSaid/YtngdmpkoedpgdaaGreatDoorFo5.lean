/-
  The tables of unicode and utf8 that a row of Finds has laid.
-/
import Derived.Test.YtngdmpkoedpgdaaGreatDoorQf
import Derived.Test.YtngdmpkoedpgdaaGreatDoorV7
import Derived.PinnedBridge
namespace Go.Proofs.YtngdmpkoedpgdaaGreatDoor
open Go Go.Ap Go.RowKit Go.Shelf Go.Proofs Go.Lib
theorem ut_of_laid {w : World} {l : List (String × DataW Unit)} (h : laidMet Tryz.prog l w) (h3 : ("unicode/utf8.first", Rows.laid_unicode_utf8_first) ∈ l) (h4 : ("unicode/utf8.acceptRanges", Rows.laid_unicode_utf8_acceptRanges) ∈ l) : UT w := by
  have e3 : Rows.laid_unicode_utf8_first = Lib.firstData := Pinned.utf8First_eq
  have e4 : (Rows.laid_unicode_utf8_acceptRanges : DataW Unit) = Lib.acceptData := by kernel_rfl
  rw [e3] at h3
  rw [e4] at h4
  exact utf8Tabs_of_reads Tryz.lays260 ⟨by kernel_rfl, by kernel_rfl, by kernel_rfl, by kernel_rfl, by kernel_rfl, by kernel_rfl, by kernel_rfl⟩ (Lib.laidMet.reads h h3) (Lib.laidMet.reads h h4)
theorem cv_of_laid {w : World} {l : List (String × DataW Unit)} (h : laidMet Tryz.prog l w) (h3 : ("unicode.CaseRanges", Rows.laid_unicode_CaseRanges) ∈ l) : CV w := by
  have e3 : Rows.laid_unicode_CaseRanges = Lib.caseData := Pinned.caseRanges_eq
  rw [e3] at h3
  exact caseVar_of_reads (ρ := Tryz.lays158_ren) { Tryz.lays158 with } Tryz.lays158.t206 ⟨by kernel_rfl, by kernel_rfl, by kernel_rfl, by kernel_rfl, by kernel_rfl, by kernel_rfl⟩ (Lib.laidMet.reads h h3)
def orbData : DataW Unit := .slice ((List.range 94).map fun i => .agg ([((orbF i : Nat) : Int), ((orbT i : Nat) : Int)].map fun z => .lit (.int .u16 z))) []
theorem gAF : Tryz.prog.globalNamed "unicode.asciiFold" = some 0 := by kernel_rfl
theorem tAF : (Tryz.prog.globals[0]?).map (·.type) = some 162 := by kernel_rfl
theorem gCO : Tryz.prog.globalNamed "unicode.caseOrbit" = some 1 := by kernel_rfl
theorem tCO : (Tryz.prog.globals[1]?).map (·.type) = some 163 := by kernel_rfl
theorem cU16 : Tryz.prog.cellsOf 161 = 1 := by kernel_rfl
theorem cAF : Tryz.prog.cellsOf 162 = 128 := by kernel_rfl
theorem cFP : Tryz.prog.cellsOf 165 = 2 := by kernel_rfl
theorem coneFP : ∃ f0 f1 : Field, Tryz.prog.underlying 165 = some (.struct #[f0, f1]) ∧ (f0.type = 161 ∧ f0.offset = 0) ∧ (f1.type = 161 ∧ f1.offset = 1) := ⟨_, _, Tryz.underlying165, ⟨rfl, rfl⟩, ⟨rfl, rfl⟩⟩
theorem ft_of_laid {w : World} {l : List (String × DataW Unit)} (h : laidMet Tryz.prog l w) (h3 : ("unicode.asciiFold", Rows.laid_unicode_asciiFold) ∈ l) (h4 : ("unicode.caseOrbit", Rows.laid_unicode_caseOrbit) ∈ l) : FT w := by
  have e3 : (Rows.laid_unicode_asciiFold : DataW Unit) = Lib.tabData .u16 ((List.range 128).map fun i => ((asciiF i : Nat) : Int)) := by kernel_rfl
  have e4 : (Rows.laid_unicode_caseOrbit : DataW Unit) = orbData := by kernel_rfl
  rw [e3] at h3
  rw [e4] at h4
  refine ⟨fun c hc => ?_, ?_⟩
  · obtain ⟨g, t, cs, fuel, p, hg, hty, hvar, hd⟩ := Lib.laidMet.reads h h3
    obtain rfl := Option.some.inj (gAF.symm.trans hg)
    obtain rfl := Option.some.inj (tAF.symm.trans hty)
    have hcs := cells_of_tab Tryz.underlying162 Tryz.underlying161 cU16 cAF hd
    have := World.var?_cell hg hvar c
    rw [this, ← Array.getElem?_toList, hcs]
    simp [hc]
  · obtain ⟨g, t, cs, fuel, p, hg, hty, hvar, hd⟩ := Lib.laidMet.reads h h4
    obtain rfl := Option.some.inj (gCO.symm.trans hg)
    obtain rfl := Option.some.inj (tCO.symm.trans hty)
    rcases DataW.trod_slice Tryz.underlying163 hd with ⟨_, hx'⟩ | ⟨a', len, cap, el, rs, m, rfl, hc0, hx', _, hlc, _, hel, helem, hsp, _⟩
    · cases hx'
    have e0 := congrArg Prod.fst hx'
    simp only [orbData, DataW.slice.injEq] at e0
    obtain ⟨eE, eR⟩ := e0
    have hlen : len = 94 := by
      have := congrArg List.length eE
      simp at this
      omega
    subst hlen
    have hrow : ∀ i, i < 94 → ∀ j, j < 2 → w.cell? ((a'.add (i * 2)).add j) = ([Value.int .u16 ((orbF i : Nat) : Int), .int .u16 ((orbT i : Nat) : Int)] : List Value)[j]? := by
      intro i hi j hj
      have h1 := helem i hi
      rw [cFP] at h1
      obtain ⟨b, hb⟩ : ∃ b, el[i]? = some b := ⟨el[i]'(by omega), List.getElem?_eq_getElem (by omega)⟩
      rw [hb] at h1
      obtain ⟨ce, hce, hte⟩ := Option.bind_eq_some_iff.1 h1
      have hb1 : b.1 = .agg ([((orbF i : Nat) : Int), ((orbT i : Nat) : Int)].map fun z => .lit (.int .u16 z)) := by
        have := congrArg (·[i]?) eE
        simp only [List.getElem?_map, hb, Option.map_some, List.getElem?_range hi, Option.some.injEq] at this
        rw [← this]
      obtain ⟨f0, f1, hu, ⟨y0, o0⟩, ⟨y1, o1⟩⟩ := coneFP
      have hcs := ints_of_struct (k := .u16) (zs := [((orbF i : Nat) : Int), ((orbT i : Nat) : Int)]) (p := b.2) hu (fun j f hj => by
        match j, hj with
        | 0, hj => simp at hj; subst hj; exact ⟨by rw [y0]; exact Tryz.underlying161, o0, by rw [y0]; exact cU16⟩
        | 1, hj => simp at hj; subst hj; exact ⟨by rw [y1]; exact Tryz.underlying161, o1, by rw [y1]; exact cU16⟩
        | j + 2, hj => simp at hj) (by rw [cFP]; rfl) (by rw [← hb1]; exact hte)
      obtain ⟨_, _, hcc⟩ := World.cells?_some hce
      rw [hcc j hj, hcs]
      rfl
    obtain ⟨R, oR, sR⟩ := a'
    obtain rfl : sR = none := by
      have h00 := hrow 0 (by omega) 0 (by omega)
      have : (Addr.add (Addr.add ⟨R, oR, sR⟩ (0 * 2)) 0) = ⟨R, oR, sR⟩ := by simp [Addr.add]
      rw [this] at h00
      exact cell_spot h00
    refine ⟨R, oR, cap, ?_, fun i hi => ?_⟩
    · rw [World.var?_cell hg hvar 0, ← Array.getElem?_toList, hc0]
      rfl
    · have k0 := hrow i hi 0 (by omega)
      have k1 := hrow i hi 1 (by omega)
      rw [Addr.add_lit, Addr.add_lit] at k0 k1
      exact ⟨by simpa using k0, by simpa using k1⟩
end Go.Proofs.YtngdmpkoedpgdaaGreatDoor
