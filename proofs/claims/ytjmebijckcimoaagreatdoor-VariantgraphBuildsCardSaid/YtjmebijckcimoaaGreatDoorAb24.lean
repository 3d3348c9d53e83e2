/-
  Spell and Paths of any graph of the sizes that Build gives: program and reference give the same answers.
-/
import Derived.Test.YtjmebijckcimoaaGreatDoorRr24
import Derived.Test.YtjmebijckcimoaaGreatDoorSp
namespace Go.Proofs.YtjmebijckcimoaaGreatDoor
open Go.RowKit Go.Ap Go.Shelf Go.Proofs

def AnsP (w : World) (p c : Int) (e : Ending) (w' : World) : Prop := e = .returned (.tuple #[.int .i64 p, .int .i64 c]) ∧ Below w.heap.size w w'
structure AnswersB (w : World) (gv : Value) (s : Int) (sw : List Str) (sc : Int) (p pc : Int) : Prop where
  spell : Calls Tryz.prog 16 #[gv, .int .i64 s] w (SpellA w sw sc)
  spellR : Calls Tryz.prog 17 #[gv, .int .i64 s] w (SpellA w sw sc)
  paths : Calls Tryz.prog 18 #[gv] w (AnsP w p pc)
  pathsR : Calls Tryz.prog 19 #[gv] w (AnsP w p pc)
theorem answersB (ws : List Str) (al : List Vg.Arc) (s : Int) (h1 : ws.length ≤ 4096) (h2 : al.length ≤ 65536) (hall : (allS al).length ≤ 1000000) (hlen : ∀ s, (Vg.spellW ws al s).length ≤ 100000 ∨ Vg.chkG ws al ≠ 0) : ∃ sw sc p pc, sw.length ≤ 100000 ∧
    ∀ (a1 : Option Addr) (n1 c1 : Nat) (a2 : Option Addr) (n2 c2 : Nat) (w : World), GraphM w a1 n1 a2 n2 ws al → AnswersB w (graphV a1 n1 c1 a2 n2 c2) s sw sc p pc := by
  by_cases hok : Vg.chkG ws al = 0
  case neg =>
    refine ⟨[], 1, 0, 1, by simp, fun a1 n1 c1 a2 n2 c2 w h => ?_⟩
    have e1 := h.words.len
    have e2 := h.arcs.len
    exact
      { spell := spellBad ws al a1 n1 c1 a2 n2 c2 s w h (by omega) (by omega) hok
        spellR := spellRBad ws al a1 n1 c1 a2 n2 c2 s w h (by omega) (by omega) hok
        paths := pathsBad ws al a1 n1 c1 a2 n2 c2 w h (by omega) (by omega) hok
        pathsR := pathsRBad ws al a1 n1 c1 a2 n2 c2 w h (by omega) (by omega) hok }
  obtain ⟨sw, sc, hsw⟩ : ∃ sw sc, (s ∈ srcC al ∧ sw = Vg.spellW ws al s ∧ sc = (0 : Int)) ∨ (s ∉ srcC al ∧ sw = [] ∧ sc = 6) := by
    by_cases h : s ∈ srcC al
    · exact ⟨_, _, .inl ⟨h, rfl, rfl⟩⟩
    · exact ⟨_, _, .inr ⟨h, rfl, rfl⟩⟩
  refine ⟨sw, sc, ((Vg.pathsN 1073741824 ((ws.length : Int) - 1) al : Nat) : Int), 0, ?_, fun a1 n1 c1 a2 n2 c2 w h => ?_⟩
  · rcases hsw with ⟨_, h, _⟩ | ⟨_, h, _⟩
    · rw [h]
      rcases hlen s with h3 | h3
      · exact h3
      · exact absurd hok h3
    · rw [h]; simp
  have e1 := h.words.len
  have e2 := h.arcs.len
  exact
    { spell := by
        rcases hsw with ⟨hm, rfl, rfl⟩ | ⟨hm, rfl, rfl⟩
        · exact callsIn_wide.1 (spellOk ws al a1 n1 c1 a2 n2 c2 s w h (by omega) (by omega) hall hok hm)
        · exact spellNot ws al a1 n1 c1 a2 n2 c2 s w h (by omega) (by omega) hall hok hm
      spellR := (spellROk ws al a1 n1 c1 a2 n2 c2 s w h (by omega) (by omega) hok).mono fun e w' ⟨g1, g2⟩ => by
        rcases hsw with ⟨hm, rfl, rfl⟩ | ⟨hm, rfl, rfl⟩
        · exact g1 hm
        · exact g2 hm
      paths := pathsOk ws al a1 n1 c1 a2 n2 c2 w h (by omega) (by omega) hok
      pathsR := pathsROk ws al a1 n1 c1 a2 n2 c2 w h (by omega) (by omega) hok }
end Go.Proofs.YtjmebijckcimoaaGreatDoor
