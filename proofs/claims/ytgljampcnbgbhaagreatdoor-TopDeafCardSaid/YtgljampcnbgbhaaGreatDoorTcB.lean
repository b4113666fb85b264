/- No place is laid twice (one closed fact, by the kernel). -/
import Derived.Test.YtgljampcnbgbhaaGreatDoorTcW
import Derived.LaidByTextLater
import Derived.SevenTiedAt
namespace Go.Proofs.YtgljampcnbgbhaaGreatDoor
open Go
theorem t2 : ∀ os tape, (DataW.laidRun Tryz.prog (varsWorld Tryz.prog 400 (varsId Tryz.prog) os tape).memory 8 (tieList.map (·.1))).map (fun x => decide x.2.Nodup && laidRowsB Tryz.prog (varsWorld Tryz.prog 400 (varsId Tryz.prog) os tape).memory x.2) = some true := fun _ _ => by kernel_rfl
end Go.Proofs.YtgljampcnbgbhaaGreatDoor
