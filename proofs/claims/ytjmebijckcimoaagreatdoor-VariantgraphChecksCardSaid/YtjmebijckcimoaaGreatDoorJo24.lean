/-
  strings.Join of a row of strings; how long the texts of a valid collation are.
-/
import Derived.Test.YtjmebijckcimoaaGreatDoorShc
import Derived.Test.YtjmebijckcimoaaGreatDoorEq
import Derived.Test.YtjmebijckcimoaaGreatDoorGl24
namespace Go.Ap
open Go Go.RowKit
end Go.Ap
namespace Go.Proofs.YtjmebijckcimoaaGreatDoor
open Go.RowKit Go.Ap Go.Shelf Go.Proofs
end Go.Proofs.YtjmebijckcimoaaGreatDoor
