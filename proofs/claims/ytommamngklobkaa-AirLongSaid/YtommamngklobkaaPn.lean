/- A plane made: place.New (contract). No conditions but those that each theorem names. -/
import Derived.Test.YtommamngklobkaaPl
namespace Go.Proofs.Ytommamngklobkaa
open Go.RowKit
set_option maxHeartbeats 1000000 in
theorem mk55 (n : Nat) (w : World) (h2 : n ≤ 16) : (Instr.makeSlice 55 (.int .i64 n) (.int .i64 n)).run Try.prog w = .ok (.slice (some ⟨w.heap.size, 0, none⟩) n n) (w.alloc (.cells (madeCells #[.complex .f64 0 0, .int .i64 0] (n * 2)) 61)) := by
  have := run_makeSlice (P := Try.prog) w 55 61 Try.t61 (.agg #[.complex .f64 0 0, .int .i64 0]) Try.underlying55 (by kernel_rfl) (by kernel_rfl) .i64 .i64 (n : Int) (n : Int) (by omega) (by omega) (by rw [Int.toNat_natCast]; show n * 2 ≤ 16777216; omega) (by show ((24 : Nat) : Int) * n ≤ 281474976710656; omega) (by omega)
  rw [Int.toNat_natCast] at this
  exact this
theorem made_at (n i : Nat) (z : Array Value) (h : i < n) : (madeCells z n)[i]? = some (z[i % z.size]!) := by
  simp [madeCells, h]
set_option maxHeartbeats 1000000 in
theorem new7 (n : Nat) (w : World) (h1 : 1 ≤ n) (h2 : n ≤ 16) :
    Calls Try.prog 7 #[.int .i64 n] w fun e w' => e = .returned (.tuple #[.pointer (some ⟨w.heap.size + 2, 0, none⟩), .int .i64 0]) ∧ (∃ cs, PlW w' (w.heap.size + 2) w.heap.size (w.heap.size + 1) n cs ∧ ∀ i, i < n → cs[i * 2]? = some (.complex .f64 0 0) ∧ cs[i * 2 + 1]? = some (.int .i64 0)) ∧ Only [] w w' := by
  have hmm := @run_makeMap Try.prog
  have hmk := mk55 n
  have hcs : ∀ i, i < n → (madeCells #[.complex .f64 0 0, .int .i64 0] (n * 2))[i * 2]? = some (.complex .f64 0 0) ∧ (madeCells #[.complex .f64 0 0, .int .i64 0] (n * 2))[i * 2 + 1]? = some (.int .i64 0) := by
    intro i hi
    refine ⟨?_, ?_⟩
    · rw [made_at _ _ _ (by omega)]; simp
    · rw [made_at _ _ _ (by omega)]; simp [Nat.add_mod]
  have hsz : (madeCells #[.complex .f64 0 0, .int .i64 0] (n * 2)).size = 2 * n := by rw [size_madeCells]; omega
  have H := Lib.hid hcs
  have S := Lib.hid hsz
  have hk := fun w => hmk w h2
  clear hmk
  generalize madeCells #[.complex .f64 0 0, .int .i64 0] (n * 2) = cs at *
  clear hcs hsz
  go_enter Try.func7, Try.ntmps7
  go_wp2
  go_ret2
  refine ⟨rfl, ⟨cs, ?_, H.out⟩, (((Only.refl [] w).alloc _).alloc _).alloc _⟩
  refine ⟨?_, ?_, ⟨h1, h2⟩, S.out, ?_⟩
  · have := heap_new ((w.alloc (.cells cs 61)).alloc (.map #[] 0)) (.cells #[.slice (some ⟨w.heap.size, 0, none⟩) n n, .map (some (w.heap.size + 1))] 58)
    simpa using this
  · exact heap_old (heap_old (heap_new w _) _) _
  · have := heap_new (w.alloc (.cells cs 61)) (.map #[] 0)
    exact heap_old (by simpa using this) _
end Go.Proofs.Ytommamngklobkaa
