/- Closed facts of the row: what is reached, and named. No conditions. (Printed by a program of ours.) -/
import Derived.Test.YtgljampcnbgbhaaGreatDoorRows
import Derived.JoinedOf
import Derived.KernelRfl
namespace Go.Proofs.YtgljampcnbgbhaaGreatDoor
open Go
set_option maxRecDepth 100000
theorem jf11 : ((Rows.topDeafRow.recurses == Tryz.prog.recurses 3)) = true := by kernel_rfl
theorem jf12 : ((Rows.topDeafRow.named == Tryz.prog.varsNamed 3)) = true := by kernel_rfl
end Go.Proofs.YtgljampcnbgbhaaGreatDoor
