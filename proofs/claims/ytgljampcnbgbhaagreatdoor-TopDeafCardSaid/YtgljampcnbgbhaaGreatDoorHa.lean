/- Pieces of the law. No conditions. (Printed by a program of ours.) -/
import Derived.Test.YtgljampcnbgbhaaGreatDoorFr
import Derived.Test.YtgljampcnbgbhaaGreatDoorFf
import Derived.Test.YtgljampcnbgbhaaGreatDoorFk
import Derived.Test.YtgljampcnbgbhaaGreatDoorGa
namespace Go.Proofs.YtgljampcnbgbhaaGreatDoor.Ev
open Go
set_option maxRecDepth 1000000
theorem df0 : ∀ x, listB (some memo32) Tryz.f3.ntmps [nav [1, 1, 1, 0] (bodyOf Tryz.f3)] D0 TD0 100 idS idS 238 D1 TD1 x = (true, some x) := fun _ => by kernel_rfl
theorem df1 : ∀ x, listB (some memo32) Tryz.f3.ntmps [nav [1, 1, 1, 1, 0] (bodyOf Tryz.f3), nav [1, 1, 1, 1, 1, 0] (bodyOf Tryz.f3)] D1 TD1 238 idS idS 241 D2 TD2 x = (true, some x) := fun _ => by kernel_rfl
theorem df2 : ∀ x, listB (some memo32) Tryz.f3.ntmps [nav [1, 1, 1, 1, 1, 1, 0] (bodyOf Tryz.f3)] D2 TD2 241 idS idS 452 D3 TD3 x = (true, some x) := fun _ => by kernel_rfl
theorem df3 : ∀ x, listB (some memo32) Tryz.f3.ntmps [nav [1, 1, 1, 1, 1, 1, 1, 0, 0] (bodyOf Tryz.f3)] D3 TD3 452 idS idS 452 S0 TS0 x = (true, some x) := fun _ => by kernel_rfl
theorem dft0 : ∀ x, listB (some memo32) Tryz.f3.ntmps [nav [1, 1, 1, 1, 1, 1, 1, 0, 1, 0, 0, 1] (bodyOf Tryz.f3)] S0 TS0 452 idS idS 514 S1 TS1 x = (true, some x) := fun _ => by kernel_rfl
theorem dfPS0 : ∀ x, listB (some memo32) Tryz.f3.ntmps [nav [1, 1, 1, 1, 1, 1, 1, 1, 0] (bodyOf Tryz.f3), nav [1, 1, 1, 1, 1, 1, 1, 1, 1, 0] (bodyOf Tryz.f3)] S0 TS0 452 idS idS 452 PS0 TPS0 x = (true, some x) := fun _ => by kernel_rfl
theorem dfPS1 : ∀ x, listB (some memo32) Tryz.f3.ntmps [nav [1, 1, 1, 1, 1, 1, 1, 1, 0] (bodyOf Tryz.f3), nav [1, 1, 1, 1, 1, 1, 1, 1, 1, 0] (bodyOf Tryz.f3)] S1 TS1 514 idS idS 514 PS1 TPS1 x = (true, some x) := fun _ => by kernel_rfl
end Go.Proofs.YtgljampcnbgbhaaGreatDoor.Ev
