/-
  The places of a collation with its sources in another order: plain laws.
-/
import Derived.Test.YtjmebijckcimoaaGreatDoorPo
namespace Go.Ap
section
variable {x : Coll} {f : Nat → Nat}
end
end Go.Ap
