/- Closed facts of the row: what is reached. No conditions. (Printed by a program of ours.) -/
import Derived.Test.YtgljampcnbgbhaaGreatDoorRows
import Derived.JoinedOf
import Derived.KernelRfl
namespace Go.Proofs.YtgljampcnbgbhaaGreatDoor
open Go
set_option maxRecDepth 100000
theorem jf9 : ((Rows.topDeafRow.inPlace == Tryz.prog.inPlace 3)) = true := by kernel_rfl
theorem jf10 : ((Rows.topDeafRow.unfollowed == Tryz.prog.unfollowed 3)) = true := by kernel_rfl
end Go.Proofs.YtgljampcnbgbhaaGreatDoor
