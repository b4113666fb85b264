/- TopDeaf returns true for every input, and leaves what it was handed as it was; no condition beside the form's own: the row and its tied card. -/
import Derived.Test.YtgljampcnbgbhaaGreatDoorGj
import Derived.ProofKit
import Derived.OpenShut
import Derived.LaidMore
import Derived.Lay
import Derived.ChangeOld
import Derived.SevenTiedAt
import Derived.Stop.Joined
set_option linter.unusedVariables false
set_option linter.unusedSimpArgs false
namespace Go.Proofs.YtgljampcnbgbhaaGreatDoor
open Go Go.ChangeShapes Go.WideShapes Go.ChangeAt Go.RowKit
set_option maxRecDepth 100000
theorem over : Rows.topDeafRow.holds Tryz.pinned (OpenSpec.ofChange Rows.topDeafSpec) :=
  OpenClaim.holds_of_wide 3 Tryz.f3 rfl rfl rfl rfl rfl rfl rfl ⟨rfl, rfl, rfl, rfl, rfl⟩ rfl rfl rfl rfl rfl named3 Tryz.func3 joined inst3 wrap3
    (fun os started H enc _ => lifted os started H enc)
end Go.Proofs.YtgljampcnbgbhaaGreatDoor
