/-
  Closed facts of the program that all rows ask for, each in a theorem of its own.
-/
import Derived.Test.YtngdmpkoedpgdaaGreatDoorRows
import Derived.JoinedOf
namespace Go.Proofs.YtngdmpkoedpgdaaGreatDoor
open Go
theorem and_t {a b : Bool} (h1 : a = true) (h2 : b = true) : (a && b) = true := by rw [h1, h2]; rfl
theorem jf_laidOut : (laidOutB Tryz.prog) = true := by kernel_rfl
theorem jf_mapsRowed : (mapsRowed Tryz.prog) = true := by kernel_rfl
theorem jf_stops : (Tryz.prog.stops == []) = true := by kernel_rfl
theorem jf_stopKnobs : (Tryz.prog.stopKnobs == []) = true := by kernel_rfl
theorem jf_stopsHeard : Tryz.prog.stopsHeard = true := by kernel_rfl
theorem jf_mayEnter : Tryz.prog.mayEnter = true := by kernel_rfl
theorem jf_lifted : (Rows.concordanceContextsRow.lifted == Tryz.prog.liftsFinal) = true := by kernel_rfl
theorem jf_make : (Tryz.prog.make == some Rows.concordanceContextsRow.make) = true := by kernel_rfl
theorem jf_plainKeys : (Rows.concordanceContextsRow.plainKeys == Tryz.prog.plainKeys) = true := by kernel_rfl
end Go.Proofs.YtngdmpkoedpgdaaGreatDoor
