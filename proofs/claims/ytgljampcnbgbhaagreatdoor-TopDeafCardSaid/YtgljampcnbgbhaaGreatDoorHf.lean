/- Pieces of the law. No conditions. (Printed by a program of ours.) -/
import Derived.Test.YtgljampcnbgbhaaGreatDoorFr
import Derived.Test.YtgljampcnbgbhaaGreatDoorFf
import Derived.Test.YtgljampcnbgbhaaGreatDoorFk
import Derived.Test.YtgljampcnbgbhaaGreatDoorGa
namespace Go.Proofs.YtgljampcnbgbhaaGreatDoor.Ev
open Go
set_option maxRecDepth 1000000
theorem dfin4 : ∀ x, listB (some memo32) Tryz.f3.ntmps [nav [1, 1, 1, 1, 1, 1, 1, 0, 1, 0, 0, 1] (bodyOf Tryz.f3)] S140 TS140 2650 (konS 141 159) idS 3235 I4 TI4 x = (true, some x) := fun _ => by kernel_rfl
theorem dfid4 : ∀ x, listB (some memo32) Tryz.f3.ntmps [nav [1, 1, 1, 1, 1, 1, 1, 0, 1, 0, 0, 1] (bodyOf Tryz.f3)] I4 TI4 3235 onS idS 3235 I4 TI4 x = (true, some x) := fun _ => by kernel_rfl
theorem dfPI4 : ∀ x, listB (some memo32) Tryz.f3.ntmps [nav [1, 1, 1, 1, 1, 1, 1, 1, 0] (bodyOf Tryz.f3), nav [1, 1, 1, 1, 1, 1, 1, 1, 1, 0] (bodyOf Tryz.f3)] I4 TI4 3235 idS idS 3235 PI4 TPI4 x = (true, some x) := fun _ => by kernel_rfl
end Go.Proofs.YtgljampcnbgbhaaGreatDoor.Ev
