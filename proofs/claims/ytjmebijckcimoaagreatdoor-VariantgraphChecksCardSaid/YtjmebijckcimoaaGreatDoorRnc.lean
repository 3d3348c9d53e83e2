import Derived.Test.YtjmebijckcimoaaGreatDoorCk


namespace Go.Proofs.YtjmebijckcimoaaGreatDoor
open Go.RowKit Go.Ap Go.Shelf Go.Proofs

attribute [local go_sem] Oper.semAt_some bs_toList empty_toList bs_size bs_extract
end Go.Proofs.YtjmebijckcimoaaGreatDoor


namespace Go.Proofs.YtjmebijckcimoaaGreatDoor
open Go.RowKit Go.Ap Go.Shelf Go.Proofs

attribute [local go_sem] Oper.semAt_some bs_toList empty_toList bs_size bs_extract

end Go.Proofs.YtjmebijckcimoaaGreatDoor
