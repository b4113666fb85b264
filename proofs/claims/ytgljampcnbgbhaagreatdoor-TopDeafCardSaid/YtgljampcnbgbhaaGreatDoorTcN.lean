/- The tie's limb of the names (one closed fact, by the kernel). -/
import Derived.Test.YtgljampcnbgbhaaGreatDoorTcW
import Derived.LaidByTextLater
import Derived.SevenTiedAt
namespace Go.Proofs.YtgljampcnbgbhaaGreatDoor
open Go
theorem tn : varsNamedLaterB Tryz.prog (varsId Tryz.prog) tieList = true := by kernel_rfl
end Go.Proofs.YtgljampcnbgbhaaGreatDoor
