/- What comes to a station of a frame, where nothing is to be done with any frame (contract). No conditions but those that each theorem names. -/
import Derived.Test.YtommamngklobkaaBu
import Derived.BigRegion
namespace Go.Proofs.Ytommamngklobkaa
open Go.RowKit
set_option linter.unusedVariables false
theorem check101 (w : World) (em : Bool) (n : Nat) (p q : Int) : (Instr.checkKey em (n + 2) 101 (.agg #[.int .i64 p, .int .i64 q])).run Try.prog w = .ok () w := by
  unfold Instr.checkKey
  have h3 := check3 w em n
  have u := run_underlying (w := w) Try.underlying101
  generalize hm : Instr.checkKey em (n + 1) = f at *
  have p0 : Sem.run Try.prog (part 3 #[Value.int IntKind.i64 p, Value.int IntKind.i64 q] 0) w = .ok (.int .i64 p) w := by kernel_rfl
  have p1 : Sem.run Try.prog (part 3 #[Value.int IntKind.i64 p, Value.int IntKind.i64 q] 1) w = .ok (.int .i64 q) w := by kernel_rfl
  simp [u, p0, p1, h3, Result.andThen]
theorem look81 (w : World) (m : Nat) (p q : Int) (hm : w.heap[m]? = some (.map #[] 0)) : (Instr.lookup 81 (.map (some m)) (.agg #[.int .i64 p, .int .i64 q]) false).run Try.prog w = .ok (.slice none 0 0) w := by
  have hc : ∀ em, (Instr.checkKey em 10000 101 (.agg #[.int .i64 p, .int .i64 q])).run Try.prog w = .ok () w := fun em => check101 w em 9998 p q
  have hf : (Instr.findKey 101 (.agg #[.int .i64 p, .int .i64 q]) []).run Try.prog w = .ok none w := by kernel_rfl
  have hz : (zeroValue 102).run Try.prog w = .ok (.slice none 0 0) w := by kernel_rfl
  simp [Instr.lookup, run_underlying Try.underlying81, MapKept.run_getObj_map hm, hc, hf, hz, Result.andThen]
set_option maxHeartbeats 1000000 in
theorem come42 {w : World} {d : Id} (h : AirS w d) (i j : Int) (s : ByteArray) :
    Calls Try.prog 42 #[.pointer (some ⟨d.A, 0, none⟩), .int .i64 i, .int .i64 j, .string s] w fun e w' => e = .returned (.tuple #[.agg #[.int .i64 i, .int .i64 j, .string s, .bool false], .bool true]) ∧ Only [] w w' := by
  have H := Lib.hid h
  clear h
  go_enter Try.func42, Try.ntmps42
  go_wp2
  have O1 : Only [] w (((w.alloc (.cells #[.int .i64 0, .int .i64 0, .string { data := #[] }, .bool false] 48)).alloc (.cells #[.int .i64 i, .int .i64 j] 101)).alloc (.cells #[.int .i64 i, .int .i64 j, .string s, .bool false] 48)) := (((Only.refl [] w).alloc _).alloc _).alloc _
  have h0 := heap_old (heap_old (heap_new w (.cells #[.int .i64 0, .int .i64 0, .string { data := #[] }, .bool false] 48)) (.cells #[.int .i64 i, .int .i64 j] 101)) (.cells #[.int .i64 i, .int .i64 j, .string s, .bool false] 48)
  have h1 := heap_old (heap_new (w.alloc (.cells #[.int .i64 0, .int .i64 0, .string { data := #[] }, .bool false] 48)) (.cells #[.int .i64 i, .int .i64 j] 101)) (.cells #[.int .i64 i, .int .i64 j, .string s, .bool false] 48)
  have h2 := heap_new ((w.alloc (.cells #[.int .i64 0, .int .i64 0, .string { data := #[] }, .bool false] 48)).alloc (.cells #[.int .i64 i, .int .i64 j] 101)) (.cells #[.int .i64 i, .int .i64 j, .string s, .bool false] 48)
  simp only [World.size_alloc] at h0 h1 h2
  have O := Lib.hid O1
  have hair := H.out.only O1 (by simp)
  clear O1
  generalize (((w.alloc (.cells #[.int .i64 0, .int .i64 0, .string { data := #[] }, .bool false] 48)).alloc (.cells #[.int .i64 i, .int .i64 j] 101)).alloc (.cells #[.int .i64 i, .int .i64 j, .string s, .bool false] 48)) = w3 at *
  have c2 := hair.c2
  have lk := fun n => look81 (w3.drewN n) d.mf i j hair.fates
  have d0 := (cell_of h1 0).trans (show _ = some (.int .i64 i) from rfl)
  have d1 := (cell_of h1 1).trans (show _ = some (.int .i64 j) from rfl)
  have H0 := Lib.hid h0
  have H2 := Lib.hid h2
  clear h0 h1 h2 hair
  go_quiet (fail)
  have O4 := Lib.hid (O.out.drewN nq)
  have h0 : (w3.drewN nq).heap[w.heap.size]? = _ := H0.out
  have h2 : (w3.drewN nq).heap[w.heap.size + 1 + 1]? = _ := H2.out
  clear lk c2 d0 d1 H0 H2 O H
  generalize w3.drewN nq = w4 at *
  have d0 := (cell_of h2 0).trans (show _ = some (.int .i64 i) from rfl)
  have d1 := (cell_of h2 1).trans (show _ = some (.int .i64 j) from rfl)
  have d2 := (cell_of h2 2).trans (show _ = some (.string s) from rfl)
  have d3 := (cell_of h2 3).trans (show _ = some (.bool false) from rfl)
  have e0 := (cell_of h0 0).trans (show _ = some (.int .i64 0) from rfl)
  have e1 := (cell_of h0 1).trans (show _ = some (.int .i64 0) from rfl)
  have e2 := (cell_of h0 2).trans (show _ = some (.string { data := #[] }) from rfl)
  have e3 := (cell_of h0 3).trans (show _ = some (.bool false) from rfl)
  have f0 := free_of h0 0
  have f1 := free_of h0 1
  have f2 := free_of h0 2
  have f3 := free_of h0 3
  clear h0 h2
  go_wp2
  refine bodyPost_ret (v := .tuple #[.agg #[.int .i64 i, .int .i64 j, .string s, .bool false], .bool true]) (by simp [results, Try.results42, go_sem, e0, e1, e2, e3]) rfl ⟨rfl, ?_⟩
  exact (((O4.out.setNew (by simp) _).setNew (by simp) _).setNew (by simp) _).setNew (by simp) _
end Go.Proofs.Ytommamngklobkaa
