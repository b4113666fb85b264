/- What the run lays is the list (one closed fact, by the kernel). -/
import Derived.Test.YtgljampcnbgbhaaGreatDoorTcW
import Derived.LaidByTextLater
import Derived.SevenTiedAt
namespace Go.Proofs.YtgljampcnbgbhaaGreatDoor
open Go
theorem t1 : ∀ os tape, (DataW.laidRun Tryz.prog (varsWorld Tryz.prog 400 (varsId Tryz.prog) os tape).memory 8 (tieList.map (·.1))).map (·.1) = some tieList := fun _ _ => by kernel_rfl
end Go.Proofs.YtgljampcnbgbhaaGreatDoor
