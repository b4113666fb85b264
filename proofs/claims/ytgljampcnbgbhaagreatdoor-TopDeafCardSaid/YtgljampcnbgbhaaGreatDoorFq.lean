/- Pieces of asleep. No conditions. (Printed by a program of ours.) -/
import Derived.Test.YtgljampcnbgbhaaGreatDoorFl
import Derived.Test.YtgljampcnbgbhaaGreatDoorFf
import Derived.Test.YtgljampcnbgbhaaGreatDoorFk
import Derived.Test.YtgljampcnbgbhaaGreatDoorFm
set_option linter.unusedVariables false
set_option linter.unusedSimpArgs false
namespace Go.Proofs.YtgljampcnbgbhaaGreatDoor.Ev
open Go
set_option maxRecDepth 1000000
theorem sl8 : chainB (some memo32) Tryz.f27.ntmps (nav [1, 0, 0] (bodyOf Tryz.f27)) 4 A8 TA8 2015 idS idS 2203 A9 TA9 = true := by kernel_rfl
theorem sl9 : chainB (some memo32) Tryz.f27.ntmps (nav [1, 0, 0] (bodyOf Tryz.f27)) 4 A9 TA9 2203 idS idS 2391 A10 TA10 = true := by kernel_rfl
theorem sl10 : chainB (some memo32) Tryz.f27.ntmps (nav [1, 0, 0] (bodyOf Tryz.f27)) 4 A10 TA10 2391 idS idS 2579 A11 TA11 = true := by kernel_rfl
theorem sl11 : pieceB (some memo32) Tryz.f13.ntmps (nav [1, 1, 1, 1, 1, 0] (bodyOf Tryz.f13)) A11s TA11s 2579 .normal idS idS 2588 A12 TA12 = true := by kernel_rfl
theorem sl12 : pieceB (some memo32) Tryz.f13.ntmps (nav [1, 1, 1, 1, 1, 1, 0] (bodyOf Tryz.f13)) A12 TA12 2588 .normal idS idS 2597 A13 TA13 = true := by kernel_rfl
theorem sl13 : pieceB (some memo32) Tryz.f13.ntmps (nav [1, 1, 1, 1, 1, 1, 1, 0] (bodyOf Tryz.f13)) A13 TA13 2597 .normal idS idS 2597 A14 TA14 = true := by kernel_rfl
end Go.Proofs.YtgljampcnbgbhaaGreatDoor.Ev
