/- Who hears whom on a plane without blocked ways (contract). No conditions but those that each theorem names. -/
import Derived.Test.YtommamngklobkaaPk
import Derived.BigRegion
namespace Go.Proofs.Ytommamngklobkaa
open Go.RowKit
theorem has27b (b s m n q : Nat) (cs : Array Value) (j i : Nat) (w : World) (h : PlW w b s m n cs) (hq : w.cell? ⟨q, 0, none⟩ = some (.int .i64 ((j : Int) + 1))) (hq1 : w.cell? ⟨q, 1, none⟩ = some (.int .i64 ((i : Int) + 1))) (hj : j < n) (hi : i < n) :
    Calls Try.prog 27 #[.pointer (some ⟨b, 0, none⟩), .slice (some ⟨q, 0, none⟩) 2 2] w fun e w' => e = .returned (.bool true) ∧ w = w' := by
  have k := len34 b s m n cs w h
  have hn := h.pos.2
  clear h
  go_enter Try.func27, Try.ntmps27
  go_wp2
  refine wp_loop_rounds 3 ?_
  rw [rounds_succ]
  go_wp2_with fail
  refine k.mono ?_
  rintro e w1 ⟨rfl, rfl⟩
  go_wp2
  rw [rounds_succ]
  go_wp2_with fail
  refine k.mono ?_
  rintro e w1 ⟨rfl, rfl⟩
  go_wp2
  rw [rounds_succ]
  go_wp2
  go_ret
  exact ⟨rfl, rfl⟩
theorem two_new (w : World) (x y u v : Value) (t : TypeId) :
    ((w.alloc (.cells #[x, y] t)).alloc (.cells #[u, v] t)).drew.cell? ⟨w.heap.size, 0, none⟩ = some x ∧ ((w.alloc (.cells #[x, y] t)).alloc (.cells #[u, v] t)).drew.cell? ⟨w.heap.size, 1, none⟩ = some y ∧
    ((w.alloc (.cells #[x, y] t)).alloc (.cells #[u, v] t)).drew.cell? ⟨w.heap.size + 1, 0, none⟩ = some u ∧ ((w.alloc (.cells #[x, y] t)).alloc (.cells #[u, v] t)).drew.cell? ⟨w.heap.size + 1, 1, none⟩ = some v := by
  have h1 := heap_old (heap_new w (.cells #[x, y] t)) (.cells #[u, v] t)
  have h2 := heap_new (w.alloc (.cells #[x, y] t)) (.cells #[u, v] t)
  have e : (w.alloc (.cells #[x, y] t)).heap.size = w.heap.size + 1 := by simp
  rw [e] at h2
  refine ⟨?_, ?_, ?_, ?_⟩
  · exact (cell_of h1 0).trans rfl
  · exact (cell_of h1 1).trans rfl
  · exact (cell_of h2 0).trans rfl
  · exact (cell_of h2 1).trans rfl
set_option maxHeartbeats 1000000 in
theorem hears22 (b s m n j i : Nat) (cs : Array Value) (a c d f r r' : Int) (x y u v : Nat) (w : World) (h : PlW w b s m n cs) (hs : StW cs j a c x y r) (ht : StW cs i d f u v r') (hj : j < n) (hi : i < n) (hji : j ≠ i) (ha : wiB a c 1000 = true) (hd : wiB d f 1000 = true) (hr0 : 0 ≤ r') (hr1 : r' ≤ 4000) :
    Calls Try.prog 22 #[.pointer (some ⟨b, 0, none⟩), .int .i64 ((j : Int) + 1), .int .i64 ((i : Int) + 1)] w fun e w' => e = .returned (.bool (decide ((a - d) * (a - d) + (c - f) * (c - f) ≤ r' * r'))) ∧ Only [] w w' := by
  have hn := h.new (.cells #[.int .i64 ((j : Int) + 1), .int .i64 ((i : Int) + 1)] 3)
  have k27 := has27b b s m n w.heap.size cs j i _ hn (nc20 _ _ _ _) (nc21 _ _ _ _) hj hi
  have d0 := hn.c0
  have d1 := hn.c1
  have dm := hn.map
  have e0 := (hn.at (j * 2)).trans hs.at0
  have e1 := (hn.at (j * 2 + 1)).trans hs.at1
  have g0 := (hn.at (i * 2)).trans ht.at0
  have g1 := (hn.at (i * 2 + 1)).trans ht.at1
  have ej : (((j : Int) + 1) - 1) = (j : Int) := by omega
  have ei : (((i : Int) + 1) - 1) = (i : Int) := by omega
  have hj16 := h.pos.2
  have hjn : (j : Int) < (n : Int) := by omega
  have hin : (i : Int) < (n : Int) := by omega
  have hne : (((j : Int) + 1) == ((i : Int) + 1)) = false := by simp; omega
  have lk := fun w p q => look56 w m p q
  have st0 := st_cplx x y
  have st1 := st_cplx u v
  have P := Lib.hid hn
  have i1 := wiB_iff.1 ha
  have i2 := wiB_iff.1 hd
  obtain ⟨p1, q1, ee, gg⟩ := CI_sub hs.ci ht.ci (by omega) (by omega)
  have cc := fun w => run_complex_sum (P := Try.prog) w .sub (Or.inr rfl) 29 .f64 x y u v p1 q1 ee
  have k26 := fun w => square26 _ _ p1 q1 w gg (by omega) (by omega)
  have hsq : 0 ≤ r' * r' := Int.mul_nonneg hr0 hr0
  have hsq1 : r' * r' ≤ 4000 * 4000 := Int.mul_le_mul hr1 hr1 hr0 (by omega)
  clear i1 i2 ee gg ha hd
  generalize (a - d) * (a - d) + (c - f) * (c - f) = qq at *
  obtain ⟨lb, ls, _⟩ := hn.lt
  have lk1 := look56 _ m ((i : Int) + 1) ((j : Int) + 1) dm
  clear hs ht h hn lk dm
  go_enter Try.func22, Try.ntmps22
  go_wp2_with fail
  refine k27.mono ?_
  rintro e w1 ⟨rfl, rfl⟩
  go_wp2
  have O1 : Only [] w (w.alloc (.cells #[.int .i64 ((j : Int) + 1), .int .i64 ((i : Int) + 1)] 3)) := (Only.refl [] w).alloc _
  have O := Lib.hid O1
  clear O1 k27 lk1
  generalize w.alloc (.cells #[.int .i64 ((j : Int) + 1), .int .i64 ((i : Int) + 1)] 3) = w1 at *
  go_region
  all_goals go_wp2
  · have O1 : Only [] w ((w1.alloc (Obj.cells #[Value.complex FloatKind.f64 x y, Value.int IntKind.i64 r] 61)).alloc (Obj.cells #[Value.complex FloatKind.f64 u v, Value.int IntKind.i64 r'] 61)).drew := ((O.out.alloc _).alloc _).drew
    obtain ⟨q0, q1, q2, q3⟩ := two_new w1 (Value.complex FloatKind.f64 x y) (Value.int IntKind.i64 r) (Value.complex FloatKind.f64 u v) (Value.int IntKind.i64 r') 61
    have O2 := Lib.hid O1
    clear O1 O
    generalize ((w1.alloc (Obj.cells #[Value.complex FloatKind.f64 x y, Value.int IntKind.i64 r] 61)).alloc (Obj.cells #[Value.complex FloatKind.f64 u v, Value.int IntKind.i64 r'] 61)).drew = w2 at *
    go_quiet ((go_at_call 26; exact Calls.quiet_of_same ((k26 _).mono (fun _ _ h => ⟨h.1, h.2.symm⟩))))
    go_wp2
    go_ret
    exact ⟨rfl, O2.out.drewN _⟩
  · have O1 : Only [] w ((w1.alloc (Obj.cells #[Value.complex FloatKind.f64 u v, Value.int IntKind.i64 r'] 61)).alloc (Obj.cells #[Value.complex FloatKind.f64 x y, Value.int IntKind.i64 r] 61)).drew := ((O.out.alloc _).alloc _).drew
    obtain ⟨q0, q1, q2, q3⟩ := two_new w1 (Value.complex FloatKind.f64 u v) (Value.int IntKind.i64 r') (Value.complex FloatKind.f64 x y) (Value.int IntKind.i64 r) 61
    have O2 := Lib.hid O1
    clear O1 O
    generalize ((w1.alloc (Obj.cells #[Value.complex FloatKind.f64 u v, Value.int IntKind.i64 r'] 61)).alloc (Obj.cells #[Value.complex FloatKind.f64 x y, Value.int IntKind.i64 r] 61)).drew = w2 at *
    go_quiet ((go_at_call 26; exact Calls.quiet_of_same ((k26 _).mono (fun _ _ h => ⟨h.1, h.2.symm⟩))))
    go_wp2
    go_ret
    exact ⟨rfl, O2.out.drewN _⟩
end Go.Proofs.Ytommamngklobkaa
