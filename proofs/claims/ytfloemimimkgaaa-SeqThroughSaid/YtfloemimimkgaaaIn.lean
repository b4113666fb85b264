/- The taker of package seq: NewIn, Vr, Held: what they return and leave (contracts). No conditions but those that each theorem names. -/
import Derived.Test.YtfloemimimkgaaaSq
import Derived.Test.YtfloemimimkgaaaSet
namespace Go.Proofs.Ytfloemimimkgaaa
open Go.RowKit Go.Maps

/-- A taker's window that lies whole in block b, its map in block bm. -/
structure InW (w : World) (b bm : Nat) (m k vr : Int) (S : List Int) : Prop where
  blk : w.heap[b]? = some (.cells #[.int .i64 m, .int .i64 k, .int .i64 vr, .map (some bm)] 79 (0, 0))
  set : SetM w bm S
theorem InW.c0 {w : World} {b bm : Nat} {m k vr : Int} {S : List Int} (h : InW w b bm m k vr S) : w.cell? ⟨b, 0, none⟩ = some (.int .i64 m) := by rw [cell_of h.blk]; rfl
theorem InW.c1 {w : World} {b bm : Nat} {m k vr : Int} {S : List Int} (h : InW w b bm m k vr S) : w.cell? ⟨b, 1, none⟩ = some (.int .i64 k) := by rw [cell_of h.blk]; rfl
theorem InW.c2 {w : World} {b bm : Nat} {m k vr : Int} {S : List Int} (h : InW w b bm m k vr S) : w.cell? ⟨b, 2, none⟩ = some (.int .i64 vr) := by rw [cell_of h.blk]; rfl
theorem InW.c3 {w : World} {b bm : Nat} {m k vr : Int} {S : List Int} (h : InW w b bm m k vr S) : w.cell? ⟨b, 3, none⟩ = some (.map (some bm)) := by rw [cell_of h.blk]; rfl
theorem InW.f {w : World} {b bm : Nat} {m k vr : Int} {S : List Int} (h : InW w b bm m k vr S) (o : Nat) : w.frozen? ⟨b, o, none⟩ = false := free_of h.blk o
theorem InW.lt {w : World} {b bm : Nat} {m k vr : Int} {S : List Int} (h : InW w b bm m k vr S) : b < w.heap.size ∧ bm < w.heap.size := ⟨heap_lt h.blk, h.set.lt⟩
theorem InW.ne {w : World} {b bm : Nat} {m k vr : Int} {S : List Int} (h : InW w b bm m k vr S) : b ≠ bm := by
  intro e; subst e
  obtain ⟨_, _, ⟨es, clock, hb, _⟩, _⟩ := h.set
  rw [h.blk] at hb; cases hb
theorem InW.only {w w' : World} {b bm : Nat} {m k vr : Int} {S : List Int} {L : List Nat} (h : InW w b bm m k vr S) (ho : Only L w w') (h1 : b ∉ L) (h2 : bm ∉ L) : InW w' b bm m k vr S := ⟨ho.heap h.blk h1, h.set.only ho h2⟩
theorem InW.below {w w' : World} {b bm : Nat} {m k vr : Int} {S : List Int} (h : InW w b bm m k vr S) (ho : Below w.heap.size w w') : InW w' b bm m k vr S := h.only (Only.of_below ho) (by simp) (by simp)
theorem InW.drew {w : World} {b bm : Nat} {m k vr : Int} {S : List Int} (h : InW w b bm m k vr S) : InW w.drew b bm m k vr S := ⟨h.blk, h.set⟩
theorem InW.drewN {w : World} {b bm : Nat} {m k vr : Int} {S : List Int} (h : InW w b bm m k vr S) (n : Nat) : InW (w.drewN n) b bm m k vr S := ⟨h.blk, h.set⟩

set_option maxHeartbeats 1000000 in
theorem newIn28 (m k : Int) (w : World) (hm : modB m = true) (h0 : 1 ≤ k) (h1 : k ≤ m / 2) :
    Calls Try.prog 28 #[.int .i64 m, .int .i64 k] w fun e w' => e = .returned (.tuple #[.pointer (some ⟨w.heap.size + 1, 0, none⟩), .int .i64 0]) ∧ InW w' (w.heap.size + 1) w.heap.size m k 0 [] ∧ Below w.heap.size w w' := by
  have hm2 := modB_or m hm
  have hm8 : 8 ≤ m := by omega
  have hm9 : m ≤ 128 := by omega
  have k50 := mod50 m w
  rw [hm] at k50
  clear hm2 hm
  have hmm := @run_makeMap Try.prog
  go_enter Try.func28, Try.ntmps28
  go_wp2_with (go_at_call 50; refine k50.mono ?_; rintro e w1 ⟨rfl, rfl⟩)
  go_ret2
  refine ⟨rfl, ⟨?_, ?_⟩, below_new2 _ _ _⟩
  · have := heap_new (w.alloc (.map #[] 0)) (.cells #[.int .i64 m, .int .i64 k, .int .i64 0, .map (some w.heap.size)] 79)
    simpa using this
  · exact (SetM.made w).only ((Only.refl [] _).alloc _) (by simp)
set_option maxHeartbeats 1000000 in
theorem newIn28_no (m k : Int) (w : World) (w0 : Wf m) (w1 : Wf k) (h : ¬ ((m = 8 ∨ m = 128) ∧ 1 ≤ k ∧ k ≤ m / 2)) :
    Calls Try.prog 28 #[.int .i64 m, .int .i64 k] w fun e w' => e = .returned (.tuple #[.pointer none, .int .i64 1]) ∧ w = w' := by
  have hb0 := bounds_i64 w0
  have hb1 := bounds_i64 w1
  have k50 := mod50 m w
  by_cases hm : modB m = true
  · have hm2 := modB_or m hm
    have hm8 : 8 ≤ m := by omega
    have hm9 : m ≤ 128 := by omega
    rw [hm] at k50
    by_cases h0 : k < 1
    · clear hm2 hm h
      go_enter Try.func28, Try.ntmps28
      go_wp2_with (go_at_call 50; refine k50.mono ?_; rintro e w1 ⟨rfl, rfl⟩)
      go_ret2
      exact ⟨rfl, rfl⟩
    · have h1 : m / 2 < k := by omega
      clear hm2 hm h
      go_enter Try.func28, Try.ntmps28
      go_wp2_with (go_at_call 50; refine k50.mono ?_; rintro e w1 ⟨rfl, rfl⟩)
      go_ret2
      exact ⟨rfl, rfl⟩
  · have hm2 : modB m = false := by simpa using hm
    rw [hm2] at k50
    clear hm2 hm h
    go_enter Try.func28, Try.ntmps28
    go_wp2_with (go_at_call 50; refine k50.mono ?_; rintro e w1 ⟨rfl, rfl⟩)
    go_ret2
    exact ⟨rfl, rfl⟩
theorem vr31 (b bm : Nat) (m k vr : Int) (S : List Int) (w : World) (h : InW w b bm m k vr S) : Calls Try.prog 31 #[.pointer (some ⟨b, 0, none⟩)] w fun e w' => e = .returned (.int .i64 vr) ∧ w = w' := by
  have c2 := h.c2
  go_enter Try.func31, Try.ntmps31
  go_wp2
  go_ret
  exact ⟨rfl, rfl⟩
theorem held30 (b bm : Nat) (m k vr : Int) (S : List Int) (w : World) (h : InW w b bm m k vr S) : Calls Try.prog 30 #[.pointer (some ⟨b, 0, none⟩)] w fun e w' => e = .returned (.int .i64 S.length) ∧ w = w' := by
  have c3 := h.c3
  have hl := h.set.len
  go_enter Try.func30, Try.ntmps30
  go_wp2
  go_ret
  exact ⟨rfl, rfl⟩
end Go.Proofs.Ytfloemimimkgaaa
