/- Pieces of asleep. No conditions. (Printed by a program of ours.) -/
import Derived.Test.YtgljampcnbgbhaaGreatDoorFl
import Derived.Test.YtgljampcnbgbhaaGreatDoorFf
import Derived.Test.YtgljampcnbgbhaaGreatDoorFk
import Derived.Test.YtgljampcnbgbhaaGreatDoorFm
set_option linter.unusedVariables false
set_option linter.unusedSimpArgs false
namespace Go.Proofs.YtgljampcnbgbhaaGreatDoor.Ev
open Go
set_option maxRecDepth 1000000
theorem sl6 : chainB (some memo32) Tryz.f27.ntmps (nav [1, 0, 0] (bodyOf Tryz.f27)) 1 A6 TA6 1184 idS idS 1827 A7 TA7 = true := by kernel_rfl
theorem sl7 : chainB (some memo32) Tryz.f27.ntmps (nav [1, 0, 0] (bodyOf Tryz.f27)) 4 A7 TA7 1827 idS idS 2015 A8 TA8 = true := by kernel_rfl
end Go.Proofs.YtgljampcnbgbhaaGreatDoor.Ev
