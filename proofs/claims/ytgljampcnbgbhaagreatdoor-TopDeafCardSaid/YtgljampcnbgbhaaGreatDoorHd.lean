/- Pieces of the law. No conditions. (Printed by a program of ours.) -/
import Derived.Test.YtgljampcnbgbhaaGreatDoorFr
import Derived.Test.YtgljampcnbgbhaaGreatDoorFf
import Derived.Test.YtgljampcnbgbhaaGreatDoorFk
import Derived.Test.YtgljampcnbgbhaaGreatDoorGa
namespace Go.Proofs.YtgljampcnbgbhaaGreatDoor.Ev
open Go
set_option maxRecDepth 1000000
theorem dfin2 : ∀ x, listB (some memo32) Tryz.f3.ntmps [nav [1, 1, 1, 1, 1, 1, 1, 0, 1, 0, 0, 1] (bodyOf Tryz.f3)] S20 TS20 1226 (konS 21 39) idS 1811 I2 TI2 x = (true, some x) := fun _ => by kernel_rfl
theorem dfid2 : ∀ x, listB (some memo32) Tryz.f3.ntmps [nav [1, 1, 1, 1, 1, 1, 1, 0, 1, 0, 0, 1] (bodyOf Tryz.f3)] I2 TI2 1811 onS idS 1811 I2 TI2 x = (true, some x) := fun _ => by kernel_rfl
theorem dfPI2 : ∀ x, listB (some memo32) Tryz.f3.ntmps [nav [1, 1, 1, 1, 1, 1, 1, 1, 0] (bodyOf Tryz.f3), nav [1, 1, 1, 1, 1, 1, 1, 1, 1, 0] (bodyOf Tryz.f3)] I2 TI2 1811 idS idS 1811 PI2 TPI2 x = (true, some x) := fun _ => by kernel_rfl
theorem dfout2 : ∀ x, listB (some memo32) Tryz.f3.ntmps [nav [1, 1, 1, 1, 1, 1, 1, 0, 1, 0, 0, 1] (bodyOf Tryz.f3)] I2 TI2 1811 idS (konS 58 2) 1811 L2 TL2 x = (true, some x) := fun _ => by kernel_rfl
theorem dfPL2 : ∀ x, listB (some memo32) Tryz.f3.ntmps [nav [1, 1, 1, 1, 1, 1, 1, 1, 0] (bodyOf Tryz.f3), nav [1, 1, 1, 1, 1, 1, 1, 1, 1, 0] (bodyOf Tryz.f3)] L2 TL2 1811 idS idS 1811 PL2 TPL2 x = (true, some x) := fun _ => by kernel_rfl
end Go.Proofs.YtgljampcnbgbhaaGreatDoor.Ev
