/- Pieces of the law. No conditions. (Printed by a program of ours.) -/
import Derived.Test.YtgljampcnbgbhaaGreatDoorFr
import Derived.Test.YtgljampcnbgbhaaGreatDoorFf
import Derived.Test.YtgljampcnbgbhaaGreatDoorFk
import Derived.Test.YtgljampcnbgbhaaGreatDoorGa
namespace Go.Proofs.YtgljampcnbgbhaaGreatDoor.Ev
open Go
set_option maxRecDepth 1000000
theorem dfin3 : ∀ x, listB (some memo32) Tryz.f3.ntmps [nav [1, 1, 1, 1, 1, 1, 1, 0, 1, 0, 0, 1] (bodyOf Tryz.f3)] S60 TS60 1938 (konS 61 79) idS 2523 I3 TI3 x = (true, some x) := fun _ => by kernel_rfl
theorem dfid3 : ∀ x, listB (some memo32) Tryz.f3.ntmps [nav [1, 1, 1, 1, 1, 1, 1, 0, 1, 0, 0, 1] (bodyOf Tryz.f3)] I3 TI3 2523 onS idS 2523 I3 TI3 x = (true, some x) := fun _ => by kernel_rfl
theorem dfPI3 : ∀ x, listB (some memo32) Tryz.f3.ntmps [nav [1, 1, 1, 1, 1, 1, 1, 1, 0] (bodyOf Tryz.f3), nav [1, 1, 1, 1, 1, 1, 1, 1, 1, 0] (bodyOf Tryz.f3)] I3 TI3 2523 idS idS 2523 PI3 TPI3 x = (true, some x) := fun _ => by kernel_rfl
theorem dfout3 : ∀ x, listB (some memo32) Tryz.f3.ntmps [nav [1, 1, 1, 1, 1, 1, 1, 0, 1, 0, 0, 1] (bodyOf Tryz.f3)] I3 TI3 2523 idS (konS 138 2) 2523 L3 TL3 x = (true, some x) := fun _ => by kernel_rfl
theorem dfPL3 : ∀ x, listB (some memo32) Tryz.f3.ntmps [nav [1, 1, 1, 1, 1, 1, 1, 1, 0] (bodyOf Tryz.f3), nav [1, 1, 1, 1, 1, 1, 1, 1, 1, 0] (bodyOf Tryz.f3)] L3 TL3 2523 idS idS 2523 PL3 TPL3 x = (true, some x) := fun _ => by kernel_rfl
end Go.Proofs.YtgljampcnbgbhaaGreatDoor.Ev
