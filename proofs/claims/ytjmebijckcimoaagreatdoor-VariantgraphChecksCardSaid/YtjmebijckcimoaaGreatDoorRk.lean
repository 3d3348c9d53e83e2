/-
  Why a token is not valid, as the reference says it.
-/
import Derived.Test.YtjmebijckcimoaaGreatDoorNc
import Derived.Deep.RegionHeld3
namespace Go.Proofs.YtjmebijckcimoaaGreatDoor
open Go.RowKit Go.Ap Go.Shelf Go.Proofs

attribute [local go_sem] Oper.semAt_some bs_toList empty_toList bs_size bs_extract
end Go.Proofs.YtjmebijckcimoaaGreatDoor
