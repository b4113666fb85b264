/- Small lemmas on memory for the walks of this seat: a block that is known whole, a store into it, what a store leaves alone. No conditions. -/
import Derived.Test.YtgljampcnbgbhaaGreatDoorRows
import Derived.WalkKit
import Derived.WalkLawsBesides
import Derived.WalkSpells
import Derived.RegionTactic
import Derived.ChangeAlike
import Derived.Deep.QuietTactic
import Derived.Deep.RegionWith
import Derived.BigQuiet
import Derived.Lib.Hide
import Derived.Outline
import Derived.OpenShut
import Derived.ProofKit
import Derived.Lib.SmallJoins
namespace Go.Proofs.YtgljampcnbgbhaaGreatDoor
open Go.RowKit Go.ChangeShapes Go.WideShapes

theorem ret_int {k : IntKind} {a b : Int} (h : a = b) : Ending.returned (.int k a) = .returned (.int k b) := by rw [h]
theorem ret_bool {a b : Bool} (h : a = b) : Ending.returned (.bool a) = .returned (.bool b) := by rw [h]

theorem heap_set {w : World} {b : Nat} {c : Array Value} {e : TypeId} {f : Nat × Nat} (h : w.heap[b]? = some (.cells c e f)) (o : Nat) (v : Value) : (w.setCell ⟨b, o, none⟩ v).heap[b]? = some (.cells (c.setIfInBounds o v) e f) := by
  simp only [World.setCell, Array.getElem?_modify]
  rw [if_pos trivial, h]; rfl

theorem heap_new (w : World) (o : Obj) : (w.alloc o).heap[w.heap.size]? = some o := (MapKept.heap_alloc w o).1

theorem heap_old {w : World} {b : Nat} {o : Obj} (h : w.heap[b]? = some o) (x : Obj) : (w.alloc x).heap[b]? = some o := by
  have hb : b < w.heap.size := (Array.getElem?_eq_some_iff.1 h).1
  rw [Below.heap_alloc w x b hb]; exact h

theorem heap_lt {w : World} {b : Nat} {o : Obj} (h : w.heap[b]? = some o) : b < w.heap.size := (Array.getElem?_eq_some_iff.1 h).1

theorem cell_of {w : World} {b : Nat} {c : Array Value} {e : TypeId} {f : Nat × Nat} (h : w.heap[b]? = some (.cells c e f)) (o : Nat) : w.cell? ⟨b, o, none⟩ = c[o]? := by
  simp [World.cell?, h]

theorem free_of {w : World} {b : Nat} {c : Array Value} {e : TypeId} (h : w.heap[b]? = some (.cells c e (0, 0))) (o : Nat) : w.frozen? ⟨b, o, none⟩ = false := by
  simp [World.frozen?, h]

theorem grown_set (w : World) (b o : Nat) (v : Value) : w.grownBy (w.setCell ⟨b, o, none⟩ v) (some b) := by
  refine ⟨rfl, rfl, rfl, by simp [World.setCell], fun i _ hi => ?_⟩
  have : i ≠ b := fun e => hi (by rw [e])
  simp [World.setCell, Array.getElem?_modify]
  omega

theorem grown_drew {w w' : World} {r : Option Nat} (h : w.grownBy w' r) : w.grownBy w'.drew r := ⟨h.os, h.tape, h.output, h.size, h.block⟩

theorem below_set {B : Nat} {w w' : World} {b : Nat} (h : w.grownBy w' (some b)) (hb : B ≤ b) (hB : B ≤ w.heap.size) : Below B w w' :=
  (Below.refl B w).grown h hB (fun k hk => by cases hk; exact hb)

theorem below_of_same {B : Nat} {w w' : World} (h : w = w') : Below B w w' := h ▸ Below.refl B w

/-- A slice of integers that came in: nil, or a row of cells. -/
def IsRow (k : IntKind) (w : World) (a : Option Addr) (len cap : Nat) (zs : List Int) : Prop :=
  (a = none ∧ len = 0 ∧ cap = 0 ∧ zs = []) ∨
  ∃ x, a = some x ∧ len ≤ cap ∧ cap ≤ maxLen ∧ zs.length = cap ∧ (∀ i, i < zs.length → w.cell? (x.add i) = some (.int k (zs.getD i 0))) ∧ ∀ n ∈ zs, (Lit.int k n).wf = true

theorem cell_lt {w : World} {a : Addr} {v : Value} (h : w.cell? a = some v) : a.block < w.heap.size := by
  unfold World.cell? at h
  split at h
  · rename_i h7; exact heap_lt h7
  · cases h

theorem IsRow.at {k : IntKind} {w : World} {a : Option Addr} {len cap : Nat} {zs : List Int} (h : IsRow k w a len cap zs) (i : Nat) (hi : i < len) :
    ∃ b off, a = some ⟨b, off, none⟩ ∧ b < w.heap.size ∧ w.cell? ⟨b, off + i, none⟩ = some (.int k (zs.getD i 0)) ∧ (Lit.int k (zs.getD i 0)).wf = true ∧ len ≤ maxLen := by
  rcases h with ⟨_, h0, _⟩ | ⟨x, rfl, h1, h2, h3, h4, h5⟩
  · omega
  · obtain ⟨b, off, rfl, hc⟩ := ints_at h4 (by omega)
    refine ⟨b, off, rfl, cell_lt (hc i (by omega)), hc i (by omega), h5 _ ?_, by omega⟩
    have : i < zs.length := by omega
    simp [List.getD_eq_getElem?_getD, this]

theorem open_row {H : Type} {enc : TypeId × Value → H} {P : Program} {W : World} {t e : TypeId} {k : IntKind} {a : Option Addr} {len cap : Nat} {d : DataW H} {p : List MemPlace}
    (ht : P.underlying t = some (.slice e)) (he : P.underlying e = some (.int k)) (hc : P.cellsOf e = 1) (h : DataW.Trod enc P W 0 (fun _ => true) true t (.slice a len cap) d p) : ∃ zs, IsRow k W a len cap zs := by
  obtain ⟨fuel, hf⟩ := h
  rcases open_ints ht he hc hf with ⟨hcs, _⟩ | ⟨x, l, c, zs, hcs, _, hl, hm, hz, _, hcell, hwz⟩
  · simp [Value.cells] at hcs
    obtain ⟨rfl, rfl, rfl⟩ := hcs
    exact ⟨[], .inl ⟨rfl, rfl, rfl, rfl⟩⟩
  · simp [Value.cells] at hcs
    obtain ⟨rfl, rfl, rfl⟩ := hcs
    exact ⟨zs, .inr ⟨_, rfl, hl, hm, by simpa using hz, hcell, hwz⟩⟩
theorem open_arr2 {H : Type} {enc : TypeId × Value → H} {P : Program} {W : World} {r : Reach} {b0 : Nat} {t e : TypeId} {k : IntKind} {v : Value} {d : DataW H} {p : List MemPlace}
    (ht : P.underlying t = some (.array 2 e)) (he : P.underlying e = some (.int k)) (hc : P.cellsOf e = 1) (hC : P.cellsOf t = 2) (hv : Value.okWide P W r b0 t v)
    (h : DataW.Trod enc P W 0 (fun _ => true) true t v d p) : ∃ x y, v = .agg #[.int k x, .int k y] ∧ (Lit.int k x).wf = true ∧ (Lit.int k y).wf = true := by
  unfold Value.okWide at hv
  rw [ht] at hv
  obtain ⟨cs, rfl, hsz, _⟩ := hv
  obtain ⟨c0, c1, rfl⟩ := Joins.array2 (hsz.trans hC)
  obtain ⟨fuel, hf⟩ := h
  obtain ⟨xs, m, _, _, _, hl, hi⟩ := DataW.trod_array ht hf
  have h0 := hi 0 (by omega)
  have h1 := hi 1 (by omega)
  simp [hc, Value.cells] at h0 h1
  match xs, hl with
  | [y0, y1], _ =>
    simp at h0 h1
    obtain ⟨a, e0, _, wa⟩ := DataW.trod_int he h0
    obtain ⟨b, e1, _, wb⟩ := DataW.trod_int he h1
    simp at e0 e1
    exact ⟨a, b, by rw [e0, e1], wa, wb⟩
theorem agg_two {a b c d : Int} (h1 : a = c) (h2 : b = d) : Ending.returned (.agg #[.int .i64 a, .int .i64 b]) = .returned (.agg #[.int .i64 c, .int .i64 d]) := by rw [h1, h2]
theorem below_new (w : World) (o : Obj) : Below w.heap.size w (w.alloc o) := (Below.refl _ _).alloc (Nat.le_refl _) _
theorem below_new2 (w : World) (o o' : Obj) : Below w.heap.size w ((w.alloc o).alloc o') := (below_new w o).alloc (by simp) _
theorem nc0 (w : World) (x : Value) (t : TypeId) : (w.alloc (.cells #[x] t)).cell? ⟨w.heap.size, 0, none⟩ = some x := by rw [cell_of (heap_new _ _)]; rfl
theorem nc20 (w : World) (x y : Value) (t : TypeId) : (w.alloc (.cells #[x, y] t)).cell? ⟨w.heap.size, 0, none⟩ = some x := by rw [cell_of (heap_new _ _)]; rfl
theorem nc21 (w : World) (x y : Value) (t : TypeId) : (w.alloc (.cells #[x, y] t)).cell? ⟨w.heap.size, 1, none⟩ = some y := by rw [cell_of (heap_new _ _)]; rfl
/-- Nothing but the blocks of L, and new ones, has turned. -/
structure Only (L : List Nat) (w w' : World) : Prop where
  os : w'.os = w.os
  tape : w'.tape = w.tape
  output : w'.output = w.output
  size : w.heap.size ≤ w'.heap.size
  block : ∀ i, i < w.heap.size → i ∉ L → w'.heap[i]? = w.heap[i]?
theorem Only.refl (L : List Nat) (w : World) : Only L w w := ⟨rfl, rfl, rfl, Nat.le_refl _, fun _ _ _ => rfl⟩
theorem Only.trans {L : List Nat} {a b c : World} (h : Only L a b) (k : Only L b c) : Only L a c :=
  ⟨k.os.trans h.os, k.tape.trans h.tape, k.output.trans h.output, Nat.le_trans h.size k.size, fun i hi hL => (k.block i (Nat.lt_of_lt_of_le hi h.size) hL).trans (h.block i hi hL)⟩
theorem Only.mono {L L' : List Nat} {a b : World} (h : Only L a b) (hs : ∀ x ∈ L, x ∈ L') : Only L' a b := ⟨h.os, h.tape, h.output, h.size, fun i hi hL => h.block i hi (fun hx => hL (hs i hx))⟩
theorem Only.drew {L : List Nat} {a b : World} (h : Only L a b) : Only L a b.drew := ⟨h.os, h.tape, h.output, h.size, h.block⟩
theorem Only.drewN {L : List Nat} {a b : World} (h : Only L a b) (n : Nat) : Only L a (b.drewN n) := ⟨h.os, h.tape, h.output, h.size, h.block⟩
theorem Only.alloc {L : List Nat} {a b : World} (h : Only L a b) (o : Obj) : Only L a (b.alloc o) :=
  h.trans ⟨rfl, rfl, rfl, by simp, fun i hi _ => Below.heap_alloc b o i hi⟩
theorem Only.setCell {L : List Nat} {a b : World} (h : Only L a b) {p : Addr} (hp : p.block ∈ L) (v : Value) : Only L a (b.setCell p v) :=
  h.trans ⟨rfl, rfl, rfl, by simp [World.setCell], fun i _ hL => Below.heap_setCell b p v i (fun e => hL (e ▸ hp))⟩
/-- A store into a block that was not there yet. -/
theorem Only.setNew {L : List Nat} {a b : World} (h : Only L a b) {p : Addr} (hp : a.heap.size ≤ p.block) (v : Value) : Only L a (b.setCell p v) :=
  ⟨h.os, h.tape, h.output, by simpa [World.setCell] using h.size, fun i hi hL => (Below.heap_setCell b p v i (by omega)).trans (h.block i hi hL)⟩
theorem Only.grown {L : List Nat} {a b c : World} {r : Option Nat} (h : Only L a b) (hg : b.grownBy c r) (hr : ∀ k, r = some k → k ∈ L ∨ a.heap.size ≤ k) : Only L a c :=
  ⟨hg.os.trans h.os, hg.tape.trans h.tape, hg.output.trans h.output, Nat.le_trans h.size hg.size, fun i hi hL => by
    refine (hg.block i (Nat.lt_of_lt_of_le hi h.size) (fun e => ?_)).trans (h.block i hi hL)
    rcases hr i e.symm with h1 | h1
    · exact hL h1
    · omega⟩
theorem Only.below {L : List Nat} {a b c : World} {B : Nat} (h : Only L a b) (hb : Below B b c) (hB : a.heap.size ≤ B) : Only L a c :=
  ⟨hb.os.trans h.os, hb.tape.trans h.tape, hb.output.trans h.output, Nat.le_trans h.size hb.size, fun i hi hL => (hb.block i (by omega)).trans (h.block i hi hL)⟩
theorem Only.of_below {w w' : World} (h : Below w.heap.size w w') : Only [] w w' := ⟨h.os, h.tape, h.output, h.size, fun i hi _ => h.block i hi⟩
/-- What was turned was new when B was the heap's size: below B all is as it was. -/
theorem Only.to_below {L : List Nat} {w a b : World} {B : Nat} (hw : Below B w a) (h : Only L a b) (hB : B ≤ a.heap.size) (hL : ∀ x ∈ L, B ≤ x) : Below B w b :=
  hw.trans ⟨h.os, h.tape, h.output, h.size, fun k hk => h.block k (by omega) (fun hx => by have := hL k hx; omega)⟩
theorem Only.heap {L : List Nat} {w w' : World} {b : Nat} {o : Obj} (h : Only L w w') (hb : w.heap[b]? = some o) (hL : b ∉ L) : w'.heap[b]? = some o := (h.block b (heap_lt hb) hL).trans hb

end Go.Proofs.YtgljampcnbgbhaaGreatDoor
