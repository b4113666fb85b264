/- The tie of the listed variables, joined out of its parts, each built in a process of its own; and the rows' ties. -/
import Derived.Test.YtgljampcnbgbhaaGreatDoorTcN
import Derived.Test.YtgljampcnbgbhaaGreatDoorTcD
import Derived.Test.YtgljampcnbgbhaaGreatDoorTcA
import Derived.Test.YtgljampcnbgbhaaGreatDoorTcB
import Derived.Test.YtgljampcnbgbhaaGreatDoorTcF
namespace Go.Proofs.YtgljampcnbgbhaaGreatDoor
open Go
theorem tie : Tryz.prog.laidByTextLater tieList [.data, .data, .data, .data, .data, .listed, .sentinel, .sentinel] true :=
  Program.laidByTextLater_by_run 400 8 tw tw2 tr tk tg tn td t1 t2 tp
theorem topDeaf_row_tie : Rows.topDeafRow.laidByTextAt .later Tryz.pinned [.data, .data, .data, .pinned, .data, .data, .listed, .sentinel, .sentinel] true :=
  OpenClaim.laidByTextAt_pinned rfl rfl tie rfl rfl rfl rfl (fun y hy _e => by
    simp only [Rows.topDeafRow, List.zip_cons_cons, List.zip_nil_right, List.mem_cons, List.mem_nil_iff, or_false] at hy
    rcases hy with rfl | rfl | rfl | rfl | rfl | rfl | rfl | rfl | rfl
    · cases _e
    · cases _e
    · cases _e
    · exact ⟨pin_laid_unicode_utf8_first, by kernel_rfl⟩
    · cases _e
    · cases _e
    · cases _e
    · cases _e
    · cases _e) fits1
theorem topDeafUpto_row_tie : Rows.topDeafUptoRow.laidByTextAt .later Tryz.pinned [.data, .data, .data, .pinned, .data, .data, .listed, .sentinel, .sentinel] true :=
  OpenClaim.laidByTextAt_pinned rfl rfl tie rfl rfl rfl rfl (fun y hy _e => by
    simp only [Rows.topDeafUptoRow, List.zip_cons_cons, List.zip_nil_right, List.mem_cons, List.mem_nil_iff, or_false] at hy
    rcases hy with rfl | rfl | rfl | rfl | rfl | rfl | rfl | rfl | rfl
    · cases _e
    · cases _e
    · cases _e
    · exact ⟨pin_laid_unicode_utf8_first, by kernel_rfl⟩
    · cases _e
    · cases _e
    · cases _e
    · cases _e
    · cases _e) fits1
end Go.Proofs.YtgljampcnbgbhaaGreatDoor
