/- Pieces of asleep. No conditions. (Printed by a program of ours.) -/
import Derived.Test.YtgljampcnbgbhaaGreatDoorFl
import Derived.Test.YtgljampcnbgbhaaGreatDoorFf
import Derived.Test.YtgljampcnbgbhaaGreatDoorFk
import Derived.Test.YtgljampcnbgbhaaGreatDoorFm
set_option linter.unusedVariables false
set_option linter.unusedSimpArgs false
namespace Go.Proofs.YtgljampcnbgbhaaGreatDoor.Ev
open Go
set_option maxRecDepth 1000000
theorem sl0 : pieceB (some memo32) Tryz.f13.ntmps (nav [1, 0] (bodyOf Tryz.f13)) A0 TA0 100 .normal idS idS 195 A1 TA1 = true := by kernel_rfl
theorem sl1 : pieceB (some memo32) Tryz.f13.ntmps (nav [1, 1, 0] (bodyOf Tryz.f13)) A1 TA1 195 .normal idS idS 195 A2 TA2 = true := by kernel_rfl
theorem sl2 : pieceB (some memo32) Tryz.f13.ntmps (nav [1, 1, 1, 0] (bodyOf Tryz.f13)) A2 TA2 195 .normal idS idS 351 A3 TA3 = true := by kernel_rfl
theorem sl3 : chainB (some memo32) Tryz.f27.ntmps (nav [1, 0, 0] (bodyOf Tryz.f27)) 1 A3t TA3t 351 idS idS 406 A4 TA4 = true := by kernel_rfl
end Go.Proofs.YtgljampcnbgbhaaGreatDoor.Ev
