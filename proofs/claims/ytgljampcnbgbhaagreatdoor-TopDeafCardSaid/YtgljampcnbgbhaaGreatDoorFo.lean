/- Pieces of asleep. No conditions. (Printed by a program of ours.) -/
import Derived.Test.YtgljampcnbgbhaaGreatDoorFl
import Derived.Test.YtgljampcnbgbhaaGreatDoorFf
import Derived.Test.YtgljampcnbgbhaaGreatDoorFk
import Derived.Test.YtgljampcnbgbhaaGreatDoorFm
set_option linter.unusedVariables false
set_option linter.unusedSimpArgs false
namespace Go.Proofs.YtgljampcnbgbhaaGreatDoor.Ev
open Go
set_option maxRecDepth 1000000
theorem sl4 : chainB (some memo32) Tryz.f27.ntmps (nav [1, 0, 0] (bodyOf Tryz.f27)) 1 A4 TA4 406 idS idS 1116 A5 TA5 = true := by kernel_rfl
theorem sl5 : chainB (some memo32) Tryz.f27.ntmps (nav [1, 0, 0] (bodyOf Tryz.f27)) 1 A5 TA5 1116 idS idS 1184 A6 TA6 = true := by kernel_rfl
end Go.Proofs.YtgljampcnbgbhaaGreatDoor.Ev
