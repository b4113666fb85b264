/- Closed facts of the row: its memory. No conditions. (Printed by a program of ours.) -/
import Derived.Test.YtgljampcnbgbhaaGreatDoorRows
import Derived.JoinedOf
import Derived.KernelRfl
namespace Go.Proofs.YtgljampcnbgbhaaGreatDoor
open Go
set_option maxRecDepth 100000
theorem jf1 : (laidOutB Tryz.prog) = true := by kernel_rfl
theorem jf2 : (mapsRowed Tryz.prog) = true := by kernel_rfl
end Go.Proofs.YtgljampcnbgbhaaGreatDoor
