/- A map from ints to bools that the program made, all of whose values are true, read as the set of its keys: what a look-up, a store of true, a delete and len give. And 'Only L': a world in which nothing but the blocks of L, and new ones, was turned. No conditions but those that each theorem names. -/
import Derived.Test.YtfloemimimkgaaaMem
import Derived.Maps.OwnOps
import Derived.Maps.OwnSet
import Derived.Maps.Views
namespace Go.Proofs.Ytfloemimimkgaaa
open Go.RowKit Go.Maps

/-- Nothing but the blocks of L, and new ones, has turned. -/
structure Only (L : List Nat) (w w' : World) : Prop where
  os : w'.os = w.os
  tape : w'.tape = w.tape
  output : w'.output = w.output
  size : w.heap.size ≤ w'.heap.size
  block : ∀ i, i < w.heap.size → i ∉ L → w'.heap[i]? = w.heap[i]?
theorem Only.refl (L : List Nat) (w : World) : Only L w w := ⟨rfl, rfl, rfl, Nat.le_refl _, fun _ _ _ => rfl⟩
theorem Only.trans {L : List Nat} {a b c : World} (h : Only L a b) (k : Only L b c) : Only L a c :=
  ⟨k.os.trans h.os, k.tape.trans h.tape, k.output.trans h.output, Nat.le_trans h.size k.size, fun i hi hL => (k.block i (Nat.lt_of_lt_of_le hi h.size) hL).trans (h.block i hi hL)⟩
theorem Only.mono {L L' : List Nat} {a b : World} (h : Only L a b) (hs : ∀ x ∈ L, x ∈ L') : Only L' a b := ⟨h.os, h.tape, h.output, h.size, fun i hi hL => h.block i hi (fun hx => hL (hs i hx))⟩
theorem Only.drew {L : List Nat} {a b : World} (h : Only L a b) : Only L a b.drew := ⟨h.os, h.tape, h.output, h.size, h.block⟩
theorem Only.drewN {L : List Nat} {a b : World} (h : Only L a b) (n : Nat) : Only L a (b.drewN n) := ⟨h.os, h.tape, h.output, h.size, h.block⟩
theorem Only.alloc {L : List Nat} {a b : World} (h : Only L a b) (o : Obj) : Only L a (b.alloc o) :=
  h.trans ⟨rfl, rfl, rfl, by simp, fun i hi _ => Below.heap_alloc b o i hi⟩
theorem Only.setCell {L : List Nat} {a b : World} (h : Only L a b) {p : Addr} (hp : p.block ∈ L) (v : Value) : Only L a (b.setCell p v) :=
  h.trans ⟨rfl, rfl, rfl, by simp [World.setCell], fun i _ hL => Below.heap_setCell b p v i (fun e => hL (e ▸ hp))⟩
/-- A store into a block that was not there yet. -/
theorem Only.setNew {L : List Nat} {a b : World} (h : Only L a b) {p : Addr} (hp : a.heap.size ≤ p.block) (v : Value) : Only L a (b.setCell p v) :=
  ⟨h.os, h.tape, h.output, by simpa [World.setCell] using h.size, fun i hi hL => (Below.heap_setCell b p v i (by omega)).trans (h.block i hi hL)⟩
theorem Only.grown {L : List Nat} {a b c : World} {r : Option Nat} (h : Only L a b) (hg : b.grownBy c r) (hr : ∀ k, r = some k → k ∈ L ∨ a.heap.size ≤ k) : Only L a c :=
  ⟨hg.os.trans h.os, hg.tape.trans h.tape, hg.output.trans h.output, Nat.le_trans h.size hg.size, fun i hi hL => by
    refine (hg.block i (Nat.lt_of_lt_of_le hi h.size) (fun e => ?_)).trans (h.block i hi hL)
    rcases hr i e.symm with h1 | h1
    · exact hL h1
    · omega⟩
theorem Only.below {L : List Nat} {a b c : World} {B : Nat} (h : Only L a b) (hb : Below B b c) (hB : a.heap.size ≤ B) : Only L a c :=
  ⟨hb.os.trans h.os, hb.tape.trans h.tape, hb.output.trans h.output, Nat.le_trans h.size hb.size, fun i hi hL => (hb.block i (by omega)).trans (h.block i hi hL)⟩
theorem Only.of_below {w w' : World} (h : Below w.heap.size w w') : Only [] w w' := ⟨h.os, h.tape, h.output, h.size, fun i hi _ => h.block i hi⟩
/-- What was turned was new when B was the heap's size: below B all is as it was. -/
theorem Only.to_below {L : List Nat} {w a b : World} {B : Nat} (hw : Below B w a) (h : Only L a b) (hB : B ≤ a.heap.size) (hL : ∀ x ∈ L, B ≤ x) : Below B w b :=
  hw.trans ⟨h.os, h.tape, h.output, h.size, fun k hk => h.block k (by omega) (fun hx => by have := hL k hx; omega)⟩
theorem Only.heap {L : List Nat} {w w' : World} {b : Nat} {o : Obj} (h : Only L w w') (hb : w.heap[b]? = some o) (hL : b ∉ L) : w'.heap[b]? = some o := (h.block b (heap_lt hb) hL).trans hb

theorem u77 : Try.prog.underlying 77 = some (.map 3 4) := Try.underlying77
theorem law3 : Keyed Try.prog 3 := int_keyed Try.underlying3
theorem zero4 (w : World) : (zeroValue 4).run Try.prog w = .ok (.bool false) w := by kernel_rfl

theorem plainElem_bool_inv {H : Type} {P : Program} {e : TypeId} (he : P.underlying e = some .bool) {v : Value} {z : DataW H × List MemPlace} (h : plainElem P e v = some z) : ∃ c, v = .bool c ∧ z = (.lit (.bool c), []) := by
  unfold plainElem at h
  rw [he] at h
  cases v <;> simp at h
  exact ⟨_, rfl, h.symm⟩

abbrev key (x : Int) : Lit := .int .i64 x
def Wf (x : Int) : Prop := (Lit.int .i64 x).wf = true
theorem wf_small {x : Int} (h0 : 0 ≤ x) (h1 : x < 1000) : Wf x := by
  unfold Wf
  exact WalkArith.wf_i64 (by omega)
theorem key_ne {x y : Int} (h : x ≠ y) : key x ≠ key y := by simpa [key] using h

/-- Block b is a map, all of whose values are true: its keys are just those of S, each once. -/
def SetM (w : World) (b : Nat) (S : List Int) : Prop :=
  ∃ (n : Nat) (D : DataW Unit), w.ownsMap Try.prog 3 (plainElem Try.prog 4) b n D ∧ Maps.size D = S.length ∧ S.Nodup ∧ (∀ x ∈ S, 0 ≤ x ∧ x < 1000) ∧
    (∀ x, D.atKey (key x) (.lit (.bool false)) = .lit (.bool (decide (x ∈ S)))) ∧ ∀ x, Maps.has D (key x) = decide (x ∈ S)

theorem SetM.lt {w : World} {b : Nat} {S : List Int} (h : SetM w b S) : b < w.heap.size := by obtain ⟨n, D, h, _⟩ := h; exact h.lt
theorem SetM.only {L : List Nat} {w w' : World} {b : Nat} {S : List Int} (h : SetM w b S) (ho : Only L w w') (hL : b ∉ L) : SetM w' b S := by
  obtain ⟨n, D, ⟨es, clock, hb, r⟩, r2⟩ := h
  exact ⟨n, D, ⟨es, clock, ho.heap hb hL, r⟩, r2⟩
theorem SetM.drewN {w : World} {b : Nat} {S : List Int} (h : SetM w b S) (n : Nat) : SetM (w.drewN n) b S := h
theorem SetM.made (w : World) : SetM (w.alloc (.map #[] 0)) w.heap.size [] :=
  ⟨0, .map [], World.ownsMap_made _ _ _ _, rfl, List.nodup_nil, by simp, fun x => by simp [DataW.atKey], fun x => by simp [has_eq]⟩

theorem SetM.look {w : World} {b : Nat} {S : List Int} (h : SetM w b S) {x : Int} (hx : Wf x) : (Instr.lookup 77 (.map (some b)) (.int .i64 x) false).run Try.prog w = .ok (.bool (decide (x ∈ S))) w := by
  obtain ⟨n, D, ho, _, _, _, hat, _⟩ := h
  obtain ⟨v, ps, hrun, hv⟩ := ho.lookup law3 u77 (zero4 w) (plainElem_bool (H := Unit) Try.underlying4 false) (keyOf_int_mk Try.underlying3 hx)
  obtain ⟨c, rfl, hc⟩ := plainElem_bool_inv Try.underlying4 hv
  rw [hat x] at hc
  simp at hc
  rw [hrun, ← hc.1]

theorem SetM.len {w : World} {b : Nat} {S : List Int} (h : SetM w b S) (ty : TypeId) : (Builtin.len_ #[77] ty #[.map (some b)]).run Try.prog w = .ok (.int .i64 S.length) w := by
  obtain ⟨n, D, ho, hs, _⟩ := h
  rw [ho.len u77, hs]

theorem SetM.put {w : World} {b : Nat} {S : List Int} (h : SetM w b S) {x : Int} (hx0 : 0 ≤ x) (hx1 : x < 1000) (hS : x ∉ S) (hlen : S.length ≤ 1000) :
    ∃ w', (Instr.mapUpdate 77 (.map (some b)) (.int .i64 x) (.bool true)).run Try.prog w = .ok () w' ∧ SetM w' b (x :: S) ∧ w.grownBy w' (some b) := by
  obtain ⟨n, D, ho, hs, hn, hb, hat, hha⟩ := h
  have ho2 : w.ownsMap Try.prog 3 (plainElem Try.prog 4) b (Maps.size D) D := by
    obtain ⟨es, clock, h1, h2, h3, h4⟩ := ho
    exact ⟨es, clock, h1, h2, by rw [h4]; simp [Maps.size, length_sorted], h4⟩
  have hml : Maps.size D < maxLen := by rw [hs]; unfold maxLen; omega
  have hkl : WideAt.IsKeyLit (key x) := by simp [WideAt.IsKeyLit]
  obtain ⟨w', hrun, ho', hg⟩ := ho2.update law3 u77 hml (keyOf_int_mk Try.underlying3 (wf_small hx0 hx1)) (plainElem_bool (H := Unit) Try.underlying4 true)
  have hti := ho.tidy law3
  refine ⟨w', hrun, ⟨_, _, ho', ?_, ?_, ?_, ?_, ?_⟩, hg⟩
  · rw [size_put hti, hha x]; simp [hS, hs]
  · exact List.nodup_cons.2 ⟨hS, hn⟩
  · intro y hy
    rcases List.mem_cons.1 hy with rfl | h1
    · omega
    · exact hb y h1
  · intro y
    by_cases e : y = x
    · subst e; rw [atKey_put_same hti.isMap hkl]; simp
    · rw [atKey_put_other (key_ne e), hat y]; simp [e]
  · intro y
    by_cases e : y = x
    · subst e; rw [has_put_same hti.isMap hkl]; simp
    · rw [has_put_other (key_ne e), hha y]; simp [e]

theorem SetM.del {w : World} {b : Nat} {S : List Int} (h : SetM w b S) {x : Int} (hx : x ∈ S) (ty : TypeId) :
    ∃ w', (Builtin.delete_ #[77, 3] ty #[.map (some b), .int .i64 x]).run Try.prog w = .ok (.tuple #[]) w' ∧ SetM w' b (S.erase x) ∧ w.grownBy w' (some b) := by
  obtain ⟨n, D, ho, hs, hn, hb, hat, hha⟩ := h
  have hx2 := hb x hx
  obtain ⟨w', hrun, ho', ht⟩ := ho.drop law3 u77 (keyOf_int_mk Try.underlying3 (wf_small hx2.1 hx2.2)) ty
  have hti := ho.tidy law3
  refine ⟨w', hrun, ⟨_, _, ho', ?_, ?_, ?_, ?_, ?_⟩, ht.grown⟩
  · have := size_del (k := key x) hti
    rw [hha x, hs] at this
    rw [List.length_erase_of_mem hx]
    rw [if_pos (by simpa using hx)] at this
    exact Nat.eq_sub_of_add_eq this
  · exact hn.erase x
  · intro y hy
    exact hb y (List.mem_of_mem_erase hy)
  · intro y
    by_cases e : y = x
    · subst e; rw [atKey_del_same]; simp [hn.not_mem_erase]
    · rw [atKey_del_other (key_ne e), hat y]; simp [List.mem_erase_of_ne e]
  · intro y
    by_cases e : y = x
    · subst e; rw [has_del_same]; simp [hn.not_mem_erase]
    · rw [has_del_other (key_ne e), hha y]; simp [List.mem_erase_of_ne e]
end Go.Proofs.Ytfloemimimkgaaa
