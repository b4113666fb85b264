/- A look-up in an empty map[way]bool (contract). No conditions but those that each theorem names. -/
import Derived.Test.YtommamngklobkaaPn
namespace Go.Proofs.Ytommamngklobkaa
open Go.RowKit
theorem check3 (w : World) (em : Bool) (n : Nat) (p : Int) : (Instr.checkKey em (n + 1) 3 (.int .i64 p)).run Try.prog w = .ok () w := by
  simp [Instr.checkKey, run_underlying Try.underlying3]
theorem check88 (w : World) (em : Bool) (n : Nat) (p q : Int) : (Instr.checkKey em (n + 2) 88 (.agg #[.int .i64 p, .int .i64 q])).run Try.prog w = .ok () w := by
  unfold Instr.checkKey
  have h3 := check3 w em n
  have u := run_underlying (w := w) Try.underlying88
  generalize hm : Instr.checkKey em (n + 1) = f at *
  have p0 : Sem.run Try.prog (part 3 #[Value.int IntKind.i64 p, Value.int IntKind.i64 q] 0) w = .ok (.int .i64 p) w := by kernel_rfl
  have p1 : Sem.run Try.prog (part 3 #[Value.int IntKind.i64 p, Value.int IntKind.i64 q] 1) w = .ok (.int .i64 q) w := by kernel_rfl
  simp [u, p0, p1, h3, Result.andThen]
theorem look56 (w : World) (m : Nat) (p q : Int) (hm : w.heap[m]? = some (.map #[] 0)) : (Instr.lookup 56 (.map (some m)) (.agg #[.int .i64 p, .int .i64 q]) false).run Try.prog w = .ok (.bool false) w := by
  have hc : ∀ em, (Instr.checkKey em 10000 88 (.agg #[.int .i64 p, .int .i64 q])).run Try.prog w = .ok () w := fun em => check88 w em 9998 p q
  have hf : (Instr.findKey 88 (.agg #[.int .i64 p, .int .i64 q]) []).run Try.prog w = .ok none w := by kernel_rfl
  have hz : (zeroValue 4).run Try.prog w = .ok (.bool false) w := by kernel_rfl
  simp [Instr.lookup, run_underlying Try.underlying56, MapKept.run_getObj_map hm, hc, hf, hz, Result.andThen]
end Go.Proofs.Ytommamngklobkaa
