/- A plane of package place that the program made: Len, has, missing, put, At, Stand, Move, Turn (contracts). No conditions but those that each theorem names. -/
import Derived.Test.YtommamngklobkaaPf
import Derived.LoopN
import Derived.Lib.Hide
namespace Go.Proofs.Ytommamngklobkaa
open Go.RowKit
set_option linter.unusedVariables false
/-- A plane in block b: its n stations lie in block s (two cells each), its blocked ways in block m. -/
structure PlW (w : World) (b s m n : Nat) (cs : Array Value) : Prop where
  blk : w.heap[b]? = some (.cells #[.slice (some ⟨s, 0, none⟩) n n, .map (some m)] 58 (0, 0))
  row : w.heap[s]? = some (.cells cs 61 (0, 0))
  pos : 1 ≤ n ∧ n ≤ 16
  size : cs.size = 2 * n
  map : w.heap[m]? = some (.map #[] 0)
theorem PlW.c0 {w : World} {b s m n : Nat} {cs : Array Value} (h : PlW w b s m n cs) : w.cell? ⟨b, 0, none⟩ = some (.slice (some ⟨s, 0, none⟩) n n) := by rw [cell_of h.blk]; rfl
theorem PlW.c1 {w : World} {b s m n : Nat} {cs : Array Value} (h : PlW w b s m n cs) : w.cell? ⟨b, 1, none⟩ = some (.map (some m)) := by rw [cell_of h.blk]; rfl
theorem PlW.only {w w' : World} {b s m n : Nat} {cs : Array Value} {L : List Nat} (h : PlW w b s m n cs) (ho : Only L w w') (h1 : b ∉ L) (h2 : s ∉ L) (h3 : m ∉ L) : PlW w' b s m n cs :=
  ⟨ho.heap h.blk h1, ho.heap h.row h2, h.pos, h.size, ho.heap h.map h3⟩
theorem len34 (b s m n : Nat) (cs : Array Value) (w : World) (h : PlW w b s m n cs) :
    Calls Try.prog 34 #[.pointer (some ⟨b, 0, none⟩)] w fun e w' => e = .returned (.int .i64 n) ∧ w = w' := by
  have c0 := h.c0
  clear h
  go_enter Try.func34, Try.ntmps34
  go_wp2
  go_ret
  exact ⟨rfl, rfl⟩
theorem has27 (b s m n q : Nat) (cs : Array Value) (j : Nat) (w : World) (h : PlW w b s m n cs) (hq : w.cell? ⟨q, 0, none⟩ = some (.int .i64 ((j : Int) + 1))) (hj : j < n) :
    Calls Try.prog 27 #[.pointer (some ⟨b, 0, none⟩), .slice (some ⟨q, 0, none⟩) 1 1] w fun e w' => e = .returned (.bool true) ∧ w = w' := by
  have k := len34 b s m n cs w h
  have hn := h.pos.2
  clear h
  go_enter Try.func27, Try.ntmps27
  go_wp2
  refine wp_loop_rounds 2 ?_
  rw [rounds_succ]
  go_wp2_with fail
  refine k.mono ?_
  rintro e w1 ⟨rfl, rfl⟩
  go_wp2
  rw [rounds_succ]
  go_wp2
  go_ret
  exact ⟨rfl, rfl⟩
theorem missing23 (b s m n q : Nat) (cs : Array Value) (j : Nat) (w : World) (h : PlW w b s m n cs) (hq : w.cell? ⟨q, 0, none⟩ = some (.int .i64 ((j : Int) + 1))) (hj : j < n) :
    Calls Try.prog 23 #[.pointer (some ⟨b, 0, none⟩), .slice (some ⟨q, 0, none⟩) 1 1] w fun e w' => e = .returned (.int .i64 0) ∧ w = w' := by
  have k := has27 b s m n q cs j w h hq hj
  clear h hq hj
  go_enter Try.func23, Try.ntmps23
  go_wp2_with fail
  refine k.mono ?_
  rintro e w1 ⟨rfl, rfl⟩
  go_wp2
  go_ret
  exact ⟨rfl, rfl⟩
theorem put24_no (p : Value) (i a c : Int) (x y : Nat) (w : World) (k : CI a c x y) (ha : a.natAbs < 2 ^ 53) (hc : c.natAbs < 2 ^ 53) (hb : wiB a c 1000 = false) :
    Calls Try.prog 24 #[p, .int .i64 i, .complex .f64 x y] w fun e w' => e = .returned (.int .i64 1) ∧ w = w' := by
  have k1 := within25 a c 1000 x y w k ha hc (by omega) (by omega)
  rw [hb] at k1
  clear k ha hc hb
  go_enter Try.func24, Try.ntmps24
  go_wp2_with fail
  refine k1.mono ?_
  rintro e w1 ⟨rfl, rfl⟩
  go_wp2
  go_ret
  exact ⟨rfl, rfl⟩
theorem st_cplx (x y : Nat) (w : World) (ad : Addr) (m : Mode) : (store ad (.complex .f64 x y) m).run Try.prog w = stored Try.prog w ad (.complex .f64 x y) m := run_store Try.prog w ad _ m rfl
theorem put24 (b s m n j : Nat) (cs : Array Value) (a c : Int) (x y : Nat) (w : World) (h : PlW w b s m n cs) (k : CI a c x y) (ha : a.natAbs < 2 ^ 53) (hc : c.natAbs < 2 ^ 53) (hb : wiB a c 1000 = true) (hj : j < n) :
    Calls Try.prog 24 #[.pointer (some ⟨b, 0, none⟩), .int .i64 ((j : Int) + 1), .complex .f64 x y] w fun e w' => e = .returned (.int .i64 0) ∧ w' = w.setCell ⟨s, j * 2, none⟩ (.complex .f64 x y) := by
  have k1 := within25 a c 1000 x y w k ha hc (by omega) (by omega)
  rw [hb] at k1
  have c0 := h.c0
  have hn := h.pos.2
  have ej : (((j : Int) + 1) - 1) = (j : Int) := by omega
  have hz := h.size
  have hc0 : (cs[j * 2]?).isSome := by simp; omega
  obtain ⟨v, hv⟩ := Option.isSome_iff_exists.1 hc0
  have hs : w.cell? ⟨s, j * 2, none⟩ = some v := by rw [cell_of h.row]; exact hv
  have hf := free_of h.row (j * 2)
  have hjn : (j : Int) < (n : Int) := by omega
  have st := st_cplx x y
  clear k ha hc hb h hc0 hv hz
  go_enter Try.func24, Try.ntmps24
  go_wp2_with fail
  refine k1.mono ?_
  rintro e w1 ⟨rfl, rfl⟩
  go_wp2
  go_ret
  exact ⟨rfl, rfl⟩
theorem nc0f (w : World) (x : Value) (t : TypeId) : (w.alloc (.cells #[x] t)).cell? ⟨w.heap.size, 0, none⟩ = some x := by rw [cell_of (heap_new _ _)]; rfl
/-- The station j + 1 of a plane stands at a place, with a reach. -/
theorem PlW.at {w : World} {b s m n : Nat} {cs : Array Value} (h : PlW w b s m n cs) (o : Nat) : w.cell? ⟨s, o, none⟩ = cs[o]? := cell_of h.row o
theorem PlW.free {w : World} {b s m n : Nat} {cs : Array Value} (h : PlW w b s m n cs) (o : Nat) : w.frozen? ⟨s, o, none⟩ = false := free_of h.row o
theorem PlW.lt {w : World} {b s m n : Nat} {cs : Array Value} (h : PlW w b s m n cs) : b < w.heap.size ∧ s < w.heap.size ∧ m < w.heap.size := ⟨heap_lt h.blk, heap_lt h.row, heap_lt h.map⟩
theorem PlW.ne {w : World} {b s m n : Nat} {cs : Array Value} (h : PlW w b s m n cs) : b ≠ s ∧ m ≠ s ∧ m ≠ b := by
  refine ⟨?_, ?_, ?_⟩
  · intro e; subst e; have := h.blk; rw [h.row] at this; cases this
  · intro e; subst e; have := h.map; rw [h.row] at this; cases this
  · intro e; subst e; have := h.map; rw [h.blk] at this; cases this
theorem PlW.set {w : World} {b s m n : Nat} {cs : Array Value} (h : PlW w b s m n cs) (o : Nat) (v : Value) : PlW (w.setCell ⟨s, o, none⟩ v) b s m n (cs.setIfInBounds o v) :=
  have ho : Only [s] w (w.setCell ⟨s, o, none⟩ v) := (Only.refl [s] w).setCell (by simp) v
  ⟨ho.heap h.blk (by simpa using h.ne.1), heap_set h.row o v, h.pos, by simpa using h.size, ho.heap h.map (by simpa using h.ne.2.1)⟩
theorem PlW.new {w : World} {b s m n : Nat} {cs : Array Value} (h : PlW w b s m n cs) (o : Obj) : PlW (w.alloc o) b s m n cs := h.only ((Only.refl [] w).alloc o) (by simp) (by simp) (by simp)
theorem wiB_2000 {a b : Int} (h : wiB a b 1000 = true) : wiB a b 2000 = true := by
  have := wiB_iff.1 h
  exact wiB_yes (by omega) (by omega)
/-- Where the station j + 1 stands (CI: two whole numbers), and its reach. -/
structure StW (cs : Array Value) (j : Nat) (a c : Int) (x y : Nat) (r : Int) : Prop where
  at0 : cs[j * 2]? = some (.complex .f64 x y)
  at1 : cs[j * 2 + 1]? = some (.int .i64 r)
  ci : CI a c x y
set_option maxHeartbeats 1000000 in
theorem move12 (b s m n j : Nat) (cs : Array Value) (a c d f r : Int) (x y u v : Nat) (w : World) (h : PlW w b s m n cs) (hs : StW cs j a c x y r)
    (k : CI d f u v) (hj : j < n) (ha : wiB a c 1000 = true) (hd : wiB d f 2000 = true) (hb : wiB (a + d) (c + f) 1000 = true) :
    Calls Try.prog 12 #[.pointer (some ⟨b, 0, none⟩), .int .i64 ((j : Int) + 1), .complex .f64 u v] w fun e w' => e = .returned (.int .i64 0) ∧ ∃ p q, CI (a + d) (c + f) p q ∧ PlW w' b s m n (cs.setIfInBounds (j * 2) (.complex .f64 p q)) ∧ Only [s] w w' := by
  have i1 := wiB_iff.1 ha
  have i2 := wiB_iff.1 hd
  obtain ⟨p, q, e1, k2⟩ := CI_add hs.ci k (by omega) (by omega)
  have c0 := fun w => run_complex_sum (P := Try.prog) w .add (Or.inl rfl) 29 .f64 x y u v p q e1
  have hn := h.new (.cells #[.int .i64 ((j : Int) + 1)] 3)
  have k23 := missing23 b s m n w.heap.size cs j _ hn (nc0f _ _ _) hj
  have k25 := within25 d f 2000 u v (w.alloc (.cells #[.int .i64 ((j : Int) + 1)] 3)) k (by omega) (by omega) (by omega) (by omega)
  rw [hd] at k25
  have k24 := put24 b s m n j cs _ _ p q _ hn k2 (by omega) (by omega) hb hj
  have d0 := hn.c0
  have d1 := (hn.at (j * 2)).trans hs.at0
  have ej : (((j : Int) + 1) - 1) = (j : Int) := by omega
  have hj16 := h.pos.2
  have hjn : (j : Int) < (n : Int) := by omega
  have P := Lib.hid hn
  have Q := Lib.hid k2
  clear i1 i2 e1 k2 hs k h hn ha hd hb
  go_enter Try.func12, Try.ntmps12
  go_wp2_with fail
  refine k23.mono ?_
  rintro e w1 ⟨rfl, rfl⟩
  go_wp2_with fail
  refine k25.mono ?_
  rintro e w1 ⟨rfl, rfl⟩
  go_wp2_with fail
  refine k24.mono ?_
  rintro e w1 ⟨rfl, rfl⟩
  go_wp2
  go_ret
  exact ⟨rfl, p, q, Q.out, P.out.set _ _, (((Only.refl [s] w).alloc _).setCell (by simp) _)⟩
set_option maxHeartbeats 1000000 in
theorem turn11 (b s m n j : Nat) (cs : Array Value) (a c d f r : Int) (x y u v : Nat) (w : World) (h : PlW w b s m n cs) (hs : StW cs j a c x y r)
    (k : CI d f u v) (hj : j < n) (ha : wiB a c 1000 = true) (hd : wiB d f 1000 = true) (hb : wiB (d - (c - f)) (f + (a - d)) 1000 = true) :
    Calls Try.prog 11 #[.pointer (some ⟨b, 0, none⟩), .int .i64 ((j : Int) + 1), .complex .f64 u v] w fun e w' => e = .returned (.int .i64 0) ∧ ∃ p q, CI (d - (c - f)) (f + (a - d)) p q ∧ PlW w' b s m n (cs.setIfInBounds (j * 2) (.complex .f64 p q)) ∧ Only [s] w w' := by
  have i1 := wiB_iff.1 ha
  have i2 := wiB_iff.1 hd
  obtain ⟨p1, q1, e1, g1⟩ := CI_sub hs.ci k (by omega) (by omega)
  obtain ⟨p2, q2, e2, g2⟩ := CI_mul (c := 0) (d := 1) g1 ⟨FI_zero, FI_one⟩ (by omega) (by omega) (by omega) (by omega)
  rw [show (a - d) * 0 - (c - f) * 1 = -(c - f) by omega, show (a - d) * 1 + (c - f) * 0 = a - d by omega] at g2
  obtain ⟨p, q, e3, k2⟩ := CI_add k g2 (by omega) (by omega)
  rw [show d + -(c - f) = d - (c - f) by omega] at k2
  have c0 := fun w => run_complex_sum (P := Try.prog) w .sub (Or.inr rfl) 29 .f64 x y u v p1 q1 e1
  have c1 := fun w => run_complex_mul (P := Try.prog) w 29 p1 q1 0 4607182418800017408 p2 q2 e2
  have c2 := fun w => run_complex_sum (P := Try.prog) w .add (Or.inl rfl) 29 .f64 u v p2 q2 p q e3
  have hn := h.new (.cells #[.int .i64 ((j : Int) + 1)] 3)
  have k23 := missing23 b s m n w.heap.size cs j _ hn (nc0f _ _ _) hj
  have k25 := within25 d f 1000 u v (w.alloc (.cells #[.int .i64 ((j : Int) + 1)] 3)) k (by omega) (by omega) (by omega) (by omega)
  rw [hd] at k25
  have k24 := put24 b s m n j cs _ _ p q _ hn k2 (by omega) (by omega) hb hj
  have d0 := hn.c0
  have d1 := (hn.at (j * 2)).trans hs.at0
  have ej : (((j : Int) + 1) - 1) = (j : Int) := by omega
  have hj16 := h.pos.2
  have hjn : (j : Int) < (n : Int) := by omega
  have P := Lib.hid hn
  have Q := Lib.hid k2
  clear i1 i2 e1 e2 e3 g1 g2 k2 hs k h hn ha hd hb
  go_enter Try.func11, Try.ntmps11
  go_wp2_with fail
  refine k23.mono ?_
  rintro e w1 ⟨rfl, rfl⟩
  go_wp2_with fail
  refine k25.mono ?_
  rintro e w1 ⟨rfl, rfl⟩
  go_wp2_with fail
  refine k24.mono ?_
  rintro e w1 ⟨rfl, rfl⟩
  go_wp2
  go_ret
  exact ⟨rfl, p, q, Q.out, P.out.set _ _, (((Only.refl [s] w).alloc _).setCell (by simp) _)⟩
set_option maxHeartbeats 1000000 in
theorem turn11_no (b s m n j : Nat) (cs : Array Value) (a c d f r : Int) (x y u v : Nat) (w : World) (h : PlW w b s m n cs) (hs : StW cs j a c x y r)
    (k : CI d f u v) (hj : j < n) (ha : wiB a c 1000 = true) (hd : wiB d f 1000 = true) (hb : wiB (d - (c - f)) (f + (a - d)) 1000 = false) :
    Calls Try.prog 11 #[.pointer (some ⟨b, 0, none⟩), .int .i64 ((j : Int) + 1), .complex .f64 u v] w fun e w' => e = .returned (.int .i64 1) ∧ Only [] w w' := by
  have i1 := wiB_iff.1 ha
  have i2 := wiB_iff.1 hd
  obtain ⟨p1, q1, e1, g1⟩ := CI_sub hs.ci k (by omega) (by omega)
  obtain ⟨p2, q2, e2, g2⟩ := CI_mul (c := 0) (d := 1) g1 ⟨FI_zero, FI_one⟩ (by omega) (by omega) (by omega) (by omega)
  rw [show (a - d) * 0 - (c - f) * 1 = -(c - f) by omega, show (a - d) * 1 + (c - f) * 0 = a - d by omega] at g2
  obtain ⟨p, q, e3, k2⟩ := CI_add k g2 (by omega) (by omega)
  rw [show d + -(c - f) = d - (c - f) by omega] at k2
  have c0 := fun w => run_complex_sum (P := Try.prog) w .sub (Or.inr rfl) 29 .f64 x y u v p1 q1 e1
  have c1 := fun w => run_complex_mul (P := Try.prog) w 29 p1 q1 0 4607182418800017408 p2 q2 e2
  have c2 := fun w => run_complex_sum (P := Try.prog) w .add (Or.inl rfl) 29 .f64 u v p2 q2 p q e3
  have hn := h.new (.cells #[.int .i64 ((j : Int) + 1)] 3)
  have k23 := missing23 b s m n w.heap.size cs j _ hn (nc0f _ _ _) hj
  have k25 := within25 d f 1000 u v (w.alloc (.cells #[.int .i64 ((j : Int) + 1)] 3)) k (by omega) (by omega) (by omega) (by omega)
  rw [hd] at k25
  have k24 := put24_no (.pointer (some ⟨b, 0, none⟩)) ((j : Int) + 1) _ _ p q (w.alloc (.cells #[.int .i64 ((j : Int) + 1)] 3)) k2 (by omega) (by omega) hb
  have d0 := hn.c0
  have d1 := (hn.at (j * 2)).trans hs.at0
  have ej : (((j : Int) + 1) - 1) = (j : Int) := by omega
  have hj16 := h.pos.2
  have hjn : (j : Int) < (n : Int) := by omega
  have P := Lib.hid hn
  have Q := Lib.hid k2
  clear i1 i2 e1 e2 e3 g1 g2 k2 hs k h hn ha hd hb
  go_enter Try.func11, Try.ntmps11
  go_wp2_with fail
  refine k23.mono ?_
  rintro e w1 ⟨rfl, rfl⟩
  go_wp2_with fail
  refine k25.mono ?_
  rintro e w1 ⟨rfl, rfl⟩
  go_wp2_with fail
  refine k24.mono ?_
  rintro e w1 ⟨rfl, rfl⟩
  go_wp2
  go_ret
  exact ⟨rfl, (Only.refl [] w).alloc _⟩
/-- The value of At, while its station lies whole. -/
theorem at10 (b s m n j : Nat) (cs : Array Value) (a c r : Int) (x y : Nat) (w : World) (h : PlW w b s m n cs) (hs : StW cs j a c x y r) (hj : j < n) :
    Calls Try.prog 10 #[.pointer (some ⟨b, 0, none⟩), .int .i64 ((j : Int) + 1)] w fun e w' => e = .returned (.tuple #[.complex .f64 x y, .int .i64 r]) ∧ Only [] w w' := by
  have hn := h.new (.cells #[.int .i64 ((j : Int) + 1)] 3)
  have k27 := has27 b s m n w.heap.size cs j _ hn (nc0f _ _ _) hj
  have d0 := hn.c0
  have d1 := (hn.at (j * 2)).trans hs.at0
  have d2 := (hn.at (j * 2 + 1)).trans hs.at1
  have ej : (((j : Int) + 1) - 1) = (j : Int) := by omega
  have hj16 := h.pos.2
  have hjn : (j : Int) < (n : Int) := by omega
  have st := st_cplx x y
  clear hs h hn
  go_enter Try.func10, Try.ntmps10
  go_wp2_with fail
  refine k27.mono ?_
  rintro e w1 ⟨rfl, rfl⟩
  go_wp2
  go_quiet (fail)
  go_wp2
  go_ret2
  exact ⟨rfl, (((Only.refl [] w).alloc _).alloc _).drewN _⟩
set_option maxHeartbeats 1000000 in
theorem stand8 (b s m n j : Nat) (cs : Array Value) (a c r r0 : Int) (x y : Nat) (v0 : Value) (w : World) (h : PlW w b s m n cs) (h0 : cs[j * 2]? = some v0) (h1 : cs[j * 2 + 1]? = some (.int .i64 r0))
    (k : CI a c x y) (hj : j < n) (ha : wiB a c 1000 = true) (hr0 : 0 ≤ r) (hr1 : r ≤ 4000) :
    Calls Try.prog 8 #[.pointer (some ⟨b, 0, none⟩), .int .i64 ((j : Int) + 1), .complex .f64 x y, .int .i64 r] w fun e w' => e = .returned (.int .i64 0) ∧ PlW w' b s m n ((cs.setIfInBounds (j * 2) (.complex .f64 x y)).setIfInBounds (j * 2 + 1) (.int .i64 r)) ∧ Only [s] w w' := by
  have i1 := wiB_iff.1 ha
  have hn := h.new (.cells #[.int .i64 ((j : Int) + 1)] 3)
  have k23 := missing23 b s m n w.heap.size cs j _ hn (nc0f _ _ _) hj
  have k24 := put24 b s m n j cs _ _ x y _ hn k (by omega) (by omega) ha hj
  have hq := hn.set (j * 2) (.complex .f64 x y)
  have d0 := hq.c0
  have d1 := hq.at (j * 2 + 1)
  rw [Array.getElem?_setIfInBounds_ne (by omega), h1] at d1
  have d2 := hq.free (j * 2 + 1)
  have ej : (((j : Int) + 1) - 1) = (j : Int) := by omega
  have hj16 := h.pos.2
  have hjn : (j : Int) < (n : Int) := by omega
  have P := Lib.hid hq
  have st := st_cplx x y
  clear i1 k h hn ha hq h0 h1
  go_enter Try.func8, Try.ntmps8
  go_wp2_with fail
  refine k23.mono ?_
  rintro e w1 ⟨rfl, rfl⟩
  go_wp2_with fail
  refine k24.mono ?_
  rintro e w1 ⟨rfl, rfl⟩
  go_wp2
  go_ret
  exact ⟨rfl, P.out.set _ _, ((((Only.refl [s] w).alloc _).setCell (by simp) _).setCell (by simp) _)⟩
end Go.Proofs.Ytommamngklobkaa
