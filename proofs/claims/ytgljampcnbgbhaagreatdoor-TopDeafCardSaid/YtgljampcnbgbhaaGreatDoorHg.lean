/- The ends of the law. No conditions. (Printed by a program of ours.) -/
import Derived.Test.YtgljampcnbgbhaaGreatDoorGd
import Derived.Test.YtgljampcnbgbhaaGreatDoorGa
namespace Go.Proofs.YtgljampcnbgbhaaGreatDoor.Ev
open Go
set_option maxRecDepth 1000000
theorem dfES0 : endB (some memo32) Tryz.f3.ntmps (nav [1, 1, 1, 1, 1, 1, 1, 1, 1, 1] (bodyOf Tryz.f3)) PS0 TPS0 452 (.int .u8 0) = true := by kernel_rfl
theorem dfES1 : endB (some memo32) Tryz.f3.ntmps (nav [1, 1, 1, 1, 1, 1, 1, 1, 1, 1] (bodyOf Tryz.f3)) PS1 TPS1 514 (.int .u8 1) = true := by kernel_rfl
theorem dfEI1 : ∀ x, endB (some memo32) Tryz.f3.ntmps (nav [1, 1, 1, 1, 1, 1, 1, 1, 1, 1] (bodyOf Tryz.f3)) PI1 TPI1 1099 x = true := fun _ => by kernel_rfl
theorem dfEL1 : ∀ x, endB (some memo32) Tryz.f3.ntmps (nav [1, 1, 1, 1, 1, 1, 1, 1, 1, 1] (bodyOf Tryz.f3)) PL1 TPL1 1099 x = true := fun _ => by kernel_rfl
theorem dfES20 : ∀ x, endB (some memo32) Tryz.f3.ntmps (nav [1, 1, 1, 1, 1, 1, 1, 1, 1, 1] (bodyOf Tryz.f3)) PS20 TPS20 1226 x = true := fun _ => by kernel_rfl
theorem dfEI2 : ∀ x, endB (some memo32) Tryz.f3.ntmps (nav [1, 1, 1, 1, 1, 1, 1, 1, 1, 1] (bodyOf Tryz.f3)) PI2 TPI2 1811 x = true := fun _ => by kernel_rfl
theorem dfEL2 : ∀ x, endB (some memo32) Tryz.f3.ntmps (nav [1, 1, 1, 1, 1, 1, 1, 1, 1, 1] (bodyOf Tryz.f3)) PL2 TPL2 1811 x = true := fun _ => by kernel_rfl
theorem dfES60 : ∀ x, endB (some memo32) Tryz.f3.ntmps (nav [1, 1, 1, 1, 1, 1, 1, 1, 1, 1] (bodyOf Tryz.f3)) PS60 TPS60 1938 x = true := fun _ => by kernel_rfl
theorem dfEI3 : ∀ x, endB (some memo32) Tryz.f3.ntmps (nav [1, 1, 1, 1, 1, 1, 1, 1, 1, 1] (bodyOf Tryz.f3)) PI3 TPI3 2523 x = true := fun _ => by kernel_rfl
theorem dfEL3 : ∀ x, endB (some memo32) Tryz.f3.ntmps (nav [1, 1, 1, 1, 1, 1, 1, 1, 1, 1] (bodyOf Tryz.f3)) PL3 TPL3 2523 x = true := fun _ => by kernel_rfl
theorem dfES140 : ∀ x, endB (some memo32) Tryz.f3.ntmps (nav [1, 1, 1, 1, 1, 1, 1, 1, 1, 1] (bodyOf Tryz.f3)) PS140 TPS140 2650 x = true := fun _ => by kernel_rfl
theorem dfEI4 : ∀ x, endB (some memo32) Tryz.f3.ntmps (nav [1, 1, 1, 1, 1, 1, 1, 1, 1, 1] (bodyOf Tryz.f3)) PI4 TPI4 3235 x = true := fun _ => by kernel_rfl
end Go.Proofs.YtgljampcnbgbhaaGreatDoor.Ev
