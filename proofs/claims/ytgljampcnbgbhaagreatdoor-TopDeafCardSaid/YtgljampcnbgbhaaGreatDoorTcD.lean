/- The run that lays the variables ends (one closed fact, by the kernel). -/
import Derived.Test.YtgljampcnbgbhaaGreatDoorTcW
import Derived.LaidByTextLater
import Derived.SevenTiedAt
namespace Go.Proofs.YtgljampcnbgbhaaGreatDoor
open Go
theorem td : ∀ os tape, varsDone Tryz.prog 400 (varsId Tryz.prog) os tape = true := fun _ _ => by kernel_rfl
end Go.Proofs.YtgljampcnbgbhaaGreatDoor
