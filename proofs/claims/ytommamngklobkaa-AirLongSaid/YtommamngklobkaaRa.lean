/- The document's plane, of which the walks need only that it takes each station (contracts: New, has, Whole, put, Stand). No conditions but those that each theorem names. -/
import Derived.Test.YtommamngklobkaaPw
import Derived.BigRegion
import Derived.Deep.RegionLaw
import Derived.Maps.RangeWalk
namespace Go.Proofs.Ytommamngklobkaa
open Go.RowKit
theorem heap_type {w : World} {b : Nat} {c c' : Array Value} {t t' : TypeId} {f f' : Nat × Nat} (h : w.heap[b]? = some (.cells c t f)) (k : w.heap[b]? = some (.cells c' t' f')) : t = t' := by
  rw [h] at k; cases k; rfl
/-- A row of n ints in a block. -/
def Ints (w : World) (b n : Nat) : Prop := ∃ cs : Array Value, w.heap[b]? = some (.cells cs 3 (0, 0)) ∧ cs.size = n
theorem Ints.cell {w : World} {b n : Nat} (h : Ints w b n) (i : Nat) (hi : i < n) : ∃ v, w.cell? ⟨b, i, none⟩ = some v ∧ w.frozen? ⟨b, i, none⟩ = false := by
  obtain ⟨cs, h1, h2⟩ := h
  obtain ⟨v, hv⟩ := Option.isSome_iff_exists.1 (show (cs[i]?).isSome by simp; omega)
  exact ⟨v, (cell_of h1 i).trans hv, free_of h1 i⟩
theorem Ints.set {w : World} {b n : Nat} (h : Ints w b n) (c i : Nat) (v : Value) : Ints (w.setCell ⟨c, i, none⟩ v) b n := by
  obtain ⟨cs, h1, h2⟩ := h
  by_cases e : b = c
  · subst e
    exact ⟨_, heap_set h1 i v, by simpa using h2⟩
  · exact ⟨cs, ((Only.refl [c] w).setCell (by simp) v).heap h1 (by simpa using e), h2⟩
theorem Ints.only {w w' : World} {b n : Nat} {L : List Nat} (h : Ints w b n) (ho : Only L w w') (hL : b ∉ L) : Ints w' b n := by
  obtain ⟨cs, h1, h2⟩ := h
  exact ⟨cs, ho.heap h1 hL, h2⟩
theorem zero94 : ∃ z : Array Value, z.size = 292 ∧ ∀ w : World, (zeroValue 94).run Try.prog w = .ok (.agg z) w :=
  ⟨#[.slice none 0 0, .slice none 0 0, .slice none 0 0] ++ Array.replicate 289 (.bool false), by rw [Array.size_append, Array.size_replicate]; rfl, fun w => by kernel_rfl⟩
/-- The document's plane in block b. -/
structure RfW (w : World) (b x y r n : Nat) : Prop where
  blk : ∃ cs : Array Value, w.heap[b]? = some (.cells cs 94 (0, 0)) ∧ cs[0]? = some (.slice (some ⟨x, 0, none⟩) n n) ∧ cs[1]? = some (.slice (some ⟨y, 0, none⟩) n n) ∧ cs[2]? = some (.slice (some ⟨r, 0, none⟩) n n)
  rx : Ints w x n
  ry : Ints w y n
  rr : Ints w r n
  pos : 1 ≤ n ∧ n ≤ 16
theorem RfW.c0 {w : World} {b x y r n : Nat} (h : RfW w b x y r n) : w.cell? ⟨b, 0, none⟩ = some (.slice (some ⟨x, 0, none⟩) n n) := by
  obtain ⟨cs, h0, h1, h2, h3⟩ := h.blk
  rw [cell_of h0]; exact h1
theorem RfW.c1 {w : World} {b x y r n : Nat} (h : RfW w b x y r n) : w.cell? ⟨b, 1, none⟩ = some (.slice (some ⟨y, 0, none⟩) n n) := by
  obtain ⟨cs, h0, h1, h2, h3⟩ := h.blk
  rw [cell_of h0]; exact h2
theorem RfW.c2 {w : World} {b x y r n : Nat} (h : RfW w b x y r n) : w.cell? ⟨b, 2, none⟩ = some (.slice (some ⟨r, 0, none⟩) n n) := by
  obtain ⟨cs, h0, h1, h2, h3⟩ := h.blk
  rw [cell_of h0]; exact h3
theorem RfW.ne {w : World} {b x y r n : Nat} (h : RfW w b x y r n) : b ≠ x ∧ b ≠ y ∧ b ≠ r := by
  obtain ⟨cs0, h0, _⟩ := h.blk
  refine ⟨?_, ?_, ?_⟩
  · intro e; subst e; obtain ⟨cs, h1, _⟩ := h.rx; exact absurd (heap_type h0 h1) (by decide)
  · intro e; subst e; obtain ⟨cs, h1, _⟩ := h.ry; exact absurd (heap_type h0 h1) (by decide)
  · intro e; subst e; obtain ⟨cs, h1, _⟩ := h.rr; exact absurd (heap_type h0 h1) (by decide)
theorem RfW.set {w : World} {b x y r n : Nat} (h : RfW w b x y r n) (c i : Nat) (v : Value) (hc : b ≠ c) : RfW (w.setCell ⟨c, i, none⟩ v) b x y r n :=
  ⟨by obtain ⟨cs, h0, h1⟩ := h.blk; exact ⟨cs, ((Only.refl [c] w).setCell (by simp) v).heap h0 (by simpa using hc), h1⟩, h.rx.set c i v, h.ry.set c i v, h.rr.set c i v, h.pos⟩
theorem RfW.only {w w' : World} {b x y r n : Nat} {L : List Nat} (h : RfW w b x y r n) (ho : Only L w w') (h1 : b ∉ L) (h2 : x ∉ L) (h3 : y ∉ L) (h4 : r ∉ L) : RfW w' b x y r n :=
  ⟨by obtain ⟨cs, h5, h6⟩ := h.blk; exact ⟨cs, ho.heap h5 h1, h6⟩, h.rx.only ho h2, h.ry.only ho h3, h.rr.only ho h4, h.pos⟩
theorem RfW.drew {w : World} {b x y r n : Nat} (h : RfW w b x y r n) : RfW w.drew b x y r n := ⟨h.blk, h.rx, h.ry, h.rr, h.pos⟩
theorem has39 (b x y r n j : Nat) (w : World) (h : RfW w b x y r n) (hj : j < n) :
    Calls Try.prog 39 #[.pointer (some ⟨b, 0, none⟩), .int .i64 ((j : Int) + 1)] w fun e w' => e = .returned (.bool true) ∧ w = w' := by
  have c0 := h.c0
  have hn := h.pos.2
  have hj1 : (j : Int) + 1 ≤ (n : Int) := by omega
  clear h
  go_enter Try.func39, Try.ntmps39
  go_wp2
  go_ret
  exact ⟨rfl, rfl⟩
theorem FI_4000 : FI 4000 4661014508095930368 := FI_int 4000 (by decide)
theorem FI_m4000 : FI (-4000) 13884386544950706176 := FI_int (-4000) (by decide)
theorem le_ord {n m : Int} {x y : Nat} (h : FI n x) (k : FI m y) (hle : n ≤ m) : (FloatKind.f64.format.order x y == some Ordering.lt || FloatKind.f64.format.order x y == some Ordering.eq) = true := by
  have := FI_order h k
  rcases Int.lt_trichotomy n m with q | q | q
  · rw [Int.compare_eq_lt.2 q] at this; simp [this]
  · rw [Int.compare_eq_eq.2 q] at this; simp [this]
  · omega
theorem ge_ord {n m : Int} {x y : Nat} (h : FI n x) (k : FI m y) (hle : m ≤ n) : (FloatKind.f64.format.order x y == some Ordering.gt || FloatKind.f64.format.order x y == some Ordering.eq) = true := by
  have := FI_order h k
  rcases Int.lt_trichotomy n m with q | q | q
  · omega
  · rw [Int.compare_eq_eq.2 q] at this; simp [this]
  · rw [Int.compare_eq_gt.2 q] at this; simp [this]
theorem FI_eq' {n : Int} {x y : Nat} (h : FI n x) (k : FI n y) : FloatKind.f64.format.order x y = some Ordering.eq := by
  have := FI_order h k
  rw [Int.compare_eq_eq.2 rfl] at this
  exact this
theorem whole40 (n : Int) (x : Nat) (w : World) (h : FI n x) (h0 : -1000 ≤ n) (h1 : n ≤ 1000) :
    Calls Try.prog 40 #[.float .f64 x, .int .i64 1000] w fun e w' => e = .returned (.tuple #[.int .i64 n, .bool true]) ∧ w = w' := by
  have q1 := ge_ord h FI_m4000 (by omega)
  have q2 := le_ord h FI_4000 (by omega)
  have q3 : FloatKind.f64.format.order (floatOfInt .f64 n) x = some Ordering.eq := FI_eq' (FI_int n (by omega)) h
  have c1 := fun w => run_convert_float_int (P := Try.prog) w 30 3 .f64 .i64 x n (by rw [Try.underlying30]; rfl) Try.underlying3 (FI_toInt h (by omega))
  clear h
  go_enter Try.func40, Try.ntmps40
  go_wp2
  go_ret2
  exact ⟨by simp, rfl⟩
set_option maxHeartbeats 1000000 in
theorem put41 (b x y r n j : Nat) (p q : Int) (w : World) (h : RfW w b x y r n) (hj : j < n) (hp0 : -1000 ≤ p) (hp1 : p ≤ 1000) (hq0 : -1000 ≤ q) (hq1 : q ≤ 1000) :
    Calls Try.prog 41 #[.pointer (some ⟨b, 0, none⟩), .int .i64 ((j : Int) + 1), .int .i64 p, .int .i64 q] w fun e w' => e = .returned (.int .i64 0) ∧ RfW w' b x y r n ∧ Only [x, y] w w' := by
  have c0 := h.c0
  have c1 := h.c1
  have hn := h.pos.2
  have ej : (((j : Int) + 1) - 1) = (j : Int) := by omega
  have hjn : (j : Int) < (n : Int) := by omega
  obtain ⟨v1, d1, f1⟩ := h.rx.cell j hj
  obtain ⟨v2, d2, f2⟩ := h.ry.cell j hj
  have H := Lib.hid h
  obtain ⟨v3, e3⟩ := cell?_setCell_some (w := w) (p := ⟨x, j, none⟩) (x := .int .i64 p) (q := ⟨y, j, none⟩) (v := v2) d2
  obtain ⟨v4, e4⟩ := cell?_setCell_some (w := w) (p := ⟨y, j, none⟩) (x := .int .i64 q) (q := ⟨x, j, none⟩) (v := v1) d1
  clear h
  go_enter Try.func41, Try.ntmps41
  go_wp2
  go_region
  all_goals go_wp2
  all_goals go_ret
  · exact ⟨rfl, ((H.out.set _ _ _ H.out.ne.1).set _ _ _ H.out.ne.2.1).drew, ((((Only.refl [x, y] w).setCell (by simp) _).setCell (by simp) _).drew)⟩
set_option maxHeartbeats 1000000 in
theorem rstand29 (b x y r n j : Nat) (u v : Nat) (p q : Int) (w : World) (h : RfW w b x y r n) (hj : j < n) (hp : FI p u) (hq : FI q v) (hp0 : -1000 ≤ p) (hp1 : p ≤ 1000) (hq0 : -1000 ≤ q) (hq1 : q ≤ 1000) :
    Calls Try.prog 29 #[.pointer (some ⟨b, 0, none⟩), .int .i64 ((j : Int) + 1), .float .f64 u, .float .f64 v, .int .i64 100] w fun e w' => e = .returned (.int .i64 0) ∧ RfW w' b x y r n ∧ Only [x, y, r] w w' := by
  have k39 := has39 b x y r n j w h hj
  have k1 := whole40 p u w hp hp0 hp1
  have k2 := whole40 q v w hq hq0 hq1
  have k41 := put41 b x y r n j p q _ (h.set r j (.int .i64 100) h.ne.2.2) hj hp0 hp1 hq0 hq1
  have c2 := h.c2
  have hn := h.pos.2
  have ej : (((j : Int) + 1) - 1) = (j : Int) := by omega
  have hjn : (j : Int) < (n : Int) := by omega
  obtain ⟨v1, d1, f1⟩ := h.rr.cell j hj
  clear h hp hq
  go_enter Try.func29, Try.ntmps29
  go_wp2_with fail
  refine k39.mono ?_
  rintro e w1 ⟨rfl, rfl⟩
  go_wp2_with fail
  refine k1.mono ?_
  rintro e w1 ⟨rfl, rfl⟩
  go_wp2_with fail
  refine k2.mono ?_
  rintro e w1 ⟨rfl, rfl⟩
  go_wp2_with fail
  refine k41.mono ?_
  rintro e w1 ⟨rfl, hr, ho⟩
  have O := Lib.hid (((Only.refl [x, y, r] w).setCell (p := ⟨r, j, none⟩) (by simp) (.int .i64 100)).trans (ho.mono (by simp)))
  have R := Lib.hid hr
  clear ho hr
  go_wp2
  go_ret
  exact ⟨rfl, R.out, O.out⟩
theorem mk89 (n : Nat) (w : World) (h2 : n ≤ 16) : (Instr.makeSlice 89 (.int .i64 n) (.int .i64 n)).run Try.prog w = .ok (.slice (some ⟨w.heap.size, 0, none⟩) n n) (w.alloc (.cells (madeCells #[.int .i64 0] (n * 1)) 3)) := by
  have := run_makeSlice (P := Try.prog) w 89 3 Try.t3 (.int .i64 0) Try.underlying89 (by kernel_rfl) (by kernel_rfl) .i64 .i64 (n : Int) (n : Int) (by omega) (by omega) (by rw [Int.toNat_natCast]; show n * 1 ≤ 16777216; omega) (by show ((8 : Nat) : Int) * n ≤ 281474976710656; omega) (by omega)
  rw [Int.toNat_natCast] at this
  exact this
theorem rf_made (w : World) (cs zz : Array Value) (n : Nat) (hs : cs.size = n) (hz : zz.size = 292) (x y r : Nat) (hx : x = w.heap.size ∨ x = w.heap.size + 1 ∨ x = w.heap.size + 1 + 1) (hy : y = w.heap.size ∨ y = w.heap.size + 1 ∨ y = w.heap.size + 1 + 1) (hr : r = w.heap.size ∨ r = w.heap.size + 1 ∨ r = w.heap.size + 1 + 1)
    (hn : 1 ≤ n ∧ n ≤ 16) :
    RfW ((((w.alloc (.cells cs 3)).alloc (.cells cs 3)).alloc (.cells cs 3)).alloc (.cells (((zz.setIfInBounds 0 (.slice (some ⟨x, 0, none⟩) n n)).setIfInBounds 1 (.slice (some ⟨y, 0, none⟩) n n)).setIfInBounds 2 (.slice (some ⟨r, 0, none⟩) n n)) 94)) (w.heap.size + 1 + 1 + 1) x y r n := by
  have h0 := heap_old (heap_old (heap_new w (.cells cs 3)) (.cells cs 3)) (.cells cs 3)
  have h1 := heap_old (heap_new (w.alloc (.cells cs 3)) (.cells cs 3)) (.cells cs 3)
  have h2 := heap_new ((w.alloc (.cells cs 3)).alloc (.cells cs 3)) (.cells cs 3)
  have h3 := heap_new (((w.alloc (.cells cs 3)).alloc (.cells cs 3)).alloc (.cells cs 3)) (.cells (((zz.setIfInBounds 0 (.slice (some ⟨x, 0, none⟩) n n)).setIfInBounds 1 (.slice (some ⟨y, 0, none⟩) n n)).setIfInBounds 2 (.slice (some ⟨r, 0, none⟩) n n)) 94)
  simp only [World.size_alloc] at h0 h1 h2 h3
  refine ⟨⟨_, h3, ?_, ?_, ?_⟩, ?_, ?_, ?_, hn⟩
  · rw [Array.getElem?_setIfInBounds_ne (by omega), Array.getElem?_setIfInBounds_ne (by omega), Array.getElem?_setIfInBounds_self, if_pos (by omega)]
  · rw [Array.getElem?_setIfInBounds_ne (by omega), Array.getElem?_setIfInBounds_self, if_pos (by rw [Array.size_setIfInBounds]; omega)]
  · rw [Array.getElem?_setIfInBounds_self, if_pos (by rw [Array.size_setIfInBounds, Array.size_setIfInBounds]; omega)]
  · rcases hx with rfl | rfl | rfl
    · exact ⟨cs, heap_old h0 _, hs⟩
    · exact ⟨cs, heap_old h1 _, hs⟩
    · exact ⟨cs, heap_old h2 _, hs⟩
  · rcases hy with rfl | rfl | rfl
    · exact ⟨cs, heap_old h0 _, hs⟩
    · exact ⟨cs, heap_old h1 _, hs⟩
    · exact ⟨cs, heap_old h2 _, hs⟩
  · rcases hr with rfl | rfl | rfl
    · exact ⟨cs, heap_old h0 _, hs⟩
    · exact ⟨cs, heap_old h1 _, hs⟩
    · exact ⟨cs, heap_old h2 _, hs⟩
set_option maxHeartbeats 1000000 in
theorem rnew28 (n : Nat) (w : World) (h1 : 1 ≤ n) (h2 : n ≤ 16) :
    Calls Try.prog 28 #[.int .i64 n] w fun e w' => ∃ b x y r, e = .returned (.pointer (some ⟨b, 0, none⟩)) ∧ RfW w' b x y r n ∧ Only [] w w' ∧ w.heap.size ≤ x ∧ w.heap.size ≤ y ∧ w.heap.size ≤ r := by
  have hmk := fun w => mk89 n w h2
  have hsz : (madeCells #[.int .i64 0] (n * 1)).size = n := by rw [size_madeCells]; simp
  have S := Lib.hid hsz
  clear hsz
  generalize madeCells #[.int .i64 0] (n * 1) = cs at *
  obtain ⟨zz, hz1, hz⟩ := zero94
  have hz0 : ¬ zz = #[] := by intro e; rw [e] at hz1; exact absurd hz1 (by decide)
  have g2 : ¬ zz.size < 2 := by omega
  have g3 : ¬ zz.size < 3 := by omega
  have HZ := Lib.hid hz1
  clear hz1
  go_enter Try.func28, Try.ntmps28
  go_wp2
  go_region_law (fail)
  all_goals go_wp2
  all_goals go_ret
  all_goals go_frame
  all_goals exact ⟨_, _, _, _, rfl, (rf_made w cs zz n S.out HZ.out _ _ _ (by omega) (by omega) (by omega) ⟨h1, h2⟩).drew, ((((Only.refl [] w).alloc _).alloc _).alloc _).alloc _ |>.drew, by omega, by omega, by omega⟩
end Go.Proofs.Ytommamngklobkaa
