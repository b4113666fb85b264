/- Pieces of the law. No conditions. (Printed by a program of ours.) -/
import Derived.Test.YtgljampcnbgbhaaGreatDoorFr
import Derived.Test.YtgljampcnbgbhaaGreatDoorFf
import Derived.Test.YtgljampcnbgbhaaGreatDoorFk
import Derived.Test.YtgljampcnbgbhaaGreatDoorGa
namespace Go.Proofs.YtgljampcnbgbhaaGreatDoor.Ev
open Go
set_option maxRecDepth 1000000
theorem dfin1 : ∀ x, listB (some memo32) Tryz.f3.ntmps [nav [1, 1, 1, 1, 1, 1, 1, 0, 1, 0, 0, 1] (bodyOf Tryz.f3)] S1 TS1 514 (konS 2 18) idS 1099 I1 TI1 x = (true, some x) := fun _ => by kernel_rfl
theorem dfid1 : ∀ x, listB (some memo32) Tryz.f3.ntmps [nav [1, 1, 1, 1, 1, 1, 1, 0, 1, 0, 0, 1] (bodyOf Tryz.f3)] I1 TI1 1099 onS idS 1099 I1 TI1 x = (true, some x) := fun _ => by kernel_rfl
theorem dfPI1 : ∀ x, listB (some memo32) Tryz.f3.ntmps [nav [1, 1, 1, 1, 1, 1, 1, 1, 0] (bodyOf Tryz.f3), nav [1, 1, 1, 1, 1, 1, 1, 1, 1, 0] (bodyOf Tryz.f3)] I1 TI1 1099 idS idS 1099 PI1 TPI1 x = (true, some x) := fun _ => by kernel_rfl
theorem dfout1 : ∀ x, listB (some memo32) Tryz.f3.ntmps [nav [1, 1, 1, 1, 1, 1, 1, 0, 1, 0, 0, 1] (bodyOf Tryz.f3)] I1 TI1 1099 idS (konS 18 2) 1099 L1 TL1 x = (true, some x) := fun _ => by kernel_rfl
theorem dfPL1 : ∀ x, listB (some memo32) Tryz.f3.ntmps [nav [1, 1, 1, 1, 1, 1, 1, 1, 0] (bodyOf Tryz.f3), nav [1, 1, 1, 1, 1, 1, 1, 1, 1, 0] (bodyOf Tryz.f3)] L1 TL1 1099 idS idS 1099 PL1 TPL1 x = (true, some x) := fun _ => by kernel_rfl
end Go.Proofs.YtgljampcnbgbhaaGreatDoor.Ev
