/- A burst in memory; how long a frame takes, how long a burst still takes (contracts). No conditions but those that each theorem names. -/
import Derived.Test.YtommamngklobkaaAa
import Derived.Test.YtommamngklobkaaRa
import Derived.StillTailTactics
namespace Go.Proofs.Ytommamngklobkaa
open Go.RowKit
set_option linter.unusedVariables false
/-- A burst: what is left of its lead and tail, its frames, how far the first one is; the block of its clear map, and what that holds. -/
structure Bu where
  lead : Int
  tail : Int
  fr : List ByteArray
  done : Int
  q : Option Nat
  cf : Int → Bool
structure BuOk (B : Bu) : Prop where
  lead : 0 ≤ B.lead ∧ B.lead ≤ 255
  tail : 0 ≤ B.tail ∧ B.tail ≤ 255
  done : 0 ≤ B.done ∧ B.done ≤ 20
  len : B.fr.length ≤ 7
  fr : ∀ s ∈ B.fr, s.size ≤ 333
/-- A slice of strings that reads as fr. -/
def FrW (w : World) (v : Value) (fr : List ByteArray) : Prop :=
  ∃ a cap, v = .slice a fr.length cap ∧ fr.length ≤ cap ∧ cap ≤ maxLen ∧ (fr ≠ [] → ∃ g off, a = some ⟨g, off, none⟩ ∧ (∃ cur fz, w.heap[g]? = some (.cells cur 9 fz)) ∧ ∀ i (h : i < fr.length), w.cell? ⟨g, off + i, none⟩ = some (.string fr[i]))
/-- A block that is no row of strings. -/
def NoStr (w : World) (x : Nat) : Prop := ∀ cur fz, w.heap[x]? ≠ some (.cells cur 9 fz)
theorem NoStr.map {w : World} {x : Nat} {es : Array MapEntry} {c : Nat} (h : w.heap[x]? = some (.map es c)) : NoStr w x := fun o s => by rw [h]; simp
theorem NoStr.cells {w : World} {x : Nat} {cs : Array Value} {t : TypeId} {f : Nat × Nat} (h : w.heap[x]? = some (.cells cs t f)) (ht : t ≠ 9) : NoStr w x := fun o s e => ht (heap_type h e)
theorem FrW.only {w w' : World} {v : Value} {fr : List ByteArray} {L : List Nat} (h : FrW w v fr) (ho : Only L w w') (hL : ∀ x ∈ L, NoStr w x) : FrW w' v fr := by
  obtain ⟨a, cap, h1, h2, h3, h4⟩ := h
  refine ⟨a, cap, h1, h2, h3, fun hne => ?_⟩
  obtain ⟨g, off, h5, ⟨cur, fz, h7⟩, h6⟩ := h4 hne
  have hg : g ∉ L := fun hg => hL g hg _ _ h7
  refine ⟨g, off, h5, ⟨cur, fz, ho.heap h7 hg⟩, fun i hi => ?_⟩
  have hc := h6 i hi
  exact (World.cell?_of_block (a := ⟨g, off + i, none⟩) (ho.block g (cell_lt hc) hg)).trans hc
def bcells (B : Bu) (v : Value) : Array Value := #[.int .i64 B.lead, .int .i64 B.tail, v, .int .i64 B.done, .map B.q]
/-- The burst B in block p. -/
structure BuW (w : World) (p N : Nat) (B : Bu) : Prop where
  blk : ∃ v, w.heap[p]? = some (.cells (bcells B v) 79 (0, 0)) ∧ FrW w v B.fr
  cl0 : B.q = none → ∀ x, B.cf x = false
  cl1 : ∀ q, B.q = some q → BoM w q N B.cf
theorem BuW.lt {w : World} {p N : Nat} {B : Bu} (h : BuW w p N B) : p < w.heap.size := by obtain ⟨v, h, _⟩ := h.blk; exact heap_lt h
theorem BuW.mono {w : World} {p N N' : Nat} {B : Bu} (h : BuW w p N B) (hN : N ≤ N') : BuW w p N' B := ⟨h.blk, h.cl0, fun q e => (h.cl1 q e).mono hN⟩
theorem BuW.nostr {w : World} {p N : Nat} {B : Bu} (h : BuW w p N B) : NoStr w p := by
  obtain ⟨v, h1, _⟩ := h.blk
  exact NoStr.cells h1 (by decide)
theorem BuW.only {w w' : World} {p N : Nat} {B : Bu} {L : List Nat} (h : BuW w p N B) (ho : Only L w w') (hL : ∀ x ∈ L, NoStr w x) (hp : p ∉ L) (hq : ∀ q, B.q = some q → q ∉ L) : BuW w' p N B := by
  obtain ⟨v, h1, h2⟩ := h.blk
  exact ⟨⟨v, ho.heap h1 hp, h2.only ho hL⟩, h.cl0, fun q e => (h.cl1 q e).only ho (hq q e)⟩
def longI (s : ByteArray) : Int := 1 + (s.size : Int) / 40
def sumL : List ByteArray → Int
  | [] => 0
  | s :: r => longI s + sumL r
theorem longI_bd {s : ByteArray} (h : s.size ≤ 333) : 1 ≤ longI s ∧ longI s ≤ 9 := by unfold longI; omega
theorem sumL_append (a b : List ByteArray) : sumL (a ++ b) = sumL a + sumL b := by
  induction a with
  | nil => simp [sumL]
  | cons s r ih => simp [sumL, ih]; omega
theorem sumL_bd (l : List ByteArray) (h : ∀ s ∈ l, s.size ≤ 333) : 0 ≤ sumL l ∧ sumL l ≤ 9 * l.length := by
  induction l with
  | nil => simp [sumL]
  | cons s r ih =>
    have h1 := longI_bd (h s (by simp))
    have h2 := ih (fun t ht => h t (by simp [ht]))
    simp only [sumL, List.length_cons]
    omega
theorem sumL_take (l : List ByteArray) (k : Nat) (h : k < l.length) : sumL (l.take (k + 1)) = sumL (l.take k) + longI l[k] := by
  rw [List.take_succ_eq_append_getElem h, sumL_append]; simp [sumL]
theorem long16 (s : ByteArray) (w : World) (hs : s.size ≤ maxLen) : Calls Try.prog 16 #[.string s] w fun e w' => e = .returned (.int .i64 (longI s)) ∧ w = w' := by
  unfold maxLen at hs
  unfold longI
  go_enter Try.func16, Try.ntmps16
  go_wp2
  go_ret
  exact ⟨rfl, rfl⟩
theorem BuW.cells {w : World} {p N : Nat} {B : Bu} (h : BuW w p N B) : ∃ v, FrW w v B.fr ∧ w.heap[p]? = some (.cells (bcells B v) 79 (0, 0)) ∧ w.cell? ⟨p, 0, none⟩ = some (.int .i64 B.lead) ∧ w.cell? ⟨p, 1, none⟩ = some (.int .i64 B.tail) ∧ w.cell? ⟨p, 2, none⟩ = some v ∧ w.cell? ⟨p, 3, none⟩ = some (.int .i64 B.done) ∧ w.cell? ⟨p, 4, none⟩ = some (.map B.q) := by
  obtain ⟨v, h1, h2⟩ := h.blk
  exact ⟨v, h2, h1, (cell_of h1 0).trans rfl, (cell_of h1 1).trans rfl, (cell_of h1 2).trans rfl, (cell_of h1 3).trans rfl, (cell_of h1 4).trans rfl⟩
/-- How many ticks a burst still takes. -/
def leftI (B : Bu) : Int := B.lead + B.tail - B.done + sumL B.fr
set_option maxHeartbeats 1000000 in
theorem left36 {w : World} {p N : Nat} {B : Bu} (h : BuW w p N B) (ho : BuOk B) :
    Calls Try.prog 36 #[.pointer (some ⟨p, 0, none⟩)] w fun e w' => e = .returned (.int .i64 (leftI B)) ∧ Only [] w w' := by
  obtain ⟨v, ⟨a, cap, rfl, hcap, hmax, hrow⟩, hb, c0, c1, c2, c3, c4⟩ := h.cells
  have o1 := ho.lead
  have o2 := ho.tail
  have o3 := ho.done
  have o4 := ho.len
  have o5 := Lib.hid ho.fr
  have HR := Lib.hid hrow
  clear hrow h hb c4
  unfold maxLen at hmax
  have e1 : IntKind.i64.wrap (B.lead + B.tail) = B.lead + B.tail := IntWalk.i64_in _ (by omega)
  have e2 : IntKind.i64.wrap (B.lead + B.tail - B.done) = B.lead + B.tail - B.done := IntWalk.i64_in _ (by omega)
  go_enter Try.func36, Try.ntmps36
  go_wp2
  go_quiet (fail)
  have O1 : Only [] w (w.drewN nq) := (Only.refl [] w).drewN nq
  clear c0 c1 c3 e1 e2
  have d2 : (w.drewN nq).cell? ⟨p, 2, none⟩ = some (.slice a B.fr.length cap) := c2
  clear c2
  have HR2 : Hid (B.fr ≠ [] → ∃ g off, a = some ⟨g, off, none⟩ ∧ (∃ cur fz, (w.drewN nq).heap[g]? = some (.cells cur 9 fz)) ∧ ∀ i (h : i < B.fr.length), (w.drewN nq).cell? ⟨g, off + i, none⟩ = some (.string B.fr[i])) := Lib.hid HR.out
  clear HR
  have OH := Lib.hid O1
  clear O1
  generalize w.drewN nq = w2 at *
  go_wp2
  go_loop [3, 25] (fun n i => ∃ k : Nat, k ≤ B.fr.length ∧ i = .int .i64 k ∧ n = .int .i64 (B.lead + B.tail - B.done + sumL (B.fr.take k))) (fun _ i => B.fr.length - (intOf i).toNat)
  case atStart => exact ⟨0, Nat.zero_le _, rfl, by simp [sumL]⟩
  case round =>
    obtain ⟨k, hk, rfl, rfl⟩ := hrel
    have hsb := sumL_bd (B.fr.take k) (fun s hs => o5.out s (List.mem_of_mem_take hs))
    rw [List.length_take, Nat.min_eq_left hk] at hsb
    by_cases hlt : k < B.fr.length
    · obtain ⟨g, off, rfl, _, hc⟩ := HR2.out (by intro e; rw [e] at hlt; simp at hlt)
      have hck := hc k hlt
      have hst := Lib.hid (sumL_take B.fr k hlt)
      have hs333 : B.fr[k].size ≤ 333 := o5.out _ (List.getElem_mem hlt)
      have hlb := longI_bd hs333
      have k16 := fun w => long16 B.fr[k] w (by unfold maxLen; omega)
      clear hc hs333
      generalize hx : B.fr[k] = x at *
      have HX := Lib.hid hx
      clear hx
      go_wp2_with fail
      refine (k16 _).mono ?_
      rintro e w3 ⟨rfl, rfl⟩
      clear k16
      go_wp2
      go_round
      case rel => exact ⟨k + 1, by omega, by go_num, by rw [hst.out]; go_num⟩
      case measure => simp [intOf]; omega
    · obtain rfl : k = B.fr.length := by omega
      rw [List.take_length] at *
      go_wp2
      go_ret
      exact ⟨rfl, OH.out⟩
end Go.Proofs.Ytommamngklobkaa
