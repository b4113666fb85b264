/- Closed facts of the card. No conditions. -/
import Derived.Test.YtgljampcnbgbhaaGreatDoorJd
import Derived.Test.YtgljampcnbgbhaaGreatDoorCards
import Derived.SevenTiedAt
import Derived.KernelRfl
namespace Go.Proofs.YtgljampcnbgbhaaGreatDoor
open Go
set_option maxRecDepth 100000
theorem cf0 : Rows.topDeafRow.wfByText (OpenSpec.ofChange Rows.topDeafSpec) = true := by kernel_rfl
theorem cf1 : Tryz.pinned.checked.prog.mainIs = some (true, "838ebfe03961e5cdd52f1bf6ed7b709cd71c7f65ca658a548036a6feeb204987".toList) := by kernel_rfl
theorem cf2 : true = Tryz.prog.looks [] := by kernel_rfl
theorem cf3 : Tryz.prog.wantsStandIn 5 = false := by kernel_rfl
theorem cf4 : Tryz.prog.wantsStandIn 22 = false := by kernel_rfl
theorem no_go : Tryz.prog.funcs.toList.any Func.goes = false := by kernel_rfl
theorem no_goes {P : Program} (h : P.funcs.toList.any Func.goes = false) (f : FuncId) : P.goes f = false := by
  have all : ∀ fn ∈ P.funcs.toList, fn.goes = false := fun fn hm => by
    have := List.any_eq_false.1 h fn hm
    simpa using this
  unfold Program.goes
  rw [Bool.or_eq_false_iff]
  refine ⟨List.any_eq_false.2 fun g _ => ?_, ?_⟩
  · cases hg : P.funcs[g]? with
    | none => simp
    | some fn =>
      have hm : fn ∈ P.funcs.toList := by
        rw [← Array.getElem?_toList] at hg
        exact List.mem_of_getElem? hg
      simp [all fn hm]
  · rw [← Array.any_toList, h, Bool.and_false]
theorem goesBy_no {P : Program} {c : OpenClaim} {f : FuncId} (hs : c.start = .entering) (hn : P.funcNamed c.func = some f) (h : P.funcs.toList.any Func.goes = false) : false = c.goesBy P := by
  unfold OpenClaim.goesBy Program.goesAt Program.goesFrom
  rw [hs, hn]
  simp [no_goes h f]
theorem goes3 : false = Rows.topDeafRow.goesBy Tryz.prog := goesBy_no rfl named3 no_go
end Go.Proofs.YtgljampcnbgbhaaGreatDoor
