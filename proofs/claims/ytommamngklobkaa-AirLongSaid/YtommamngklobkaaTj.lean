/- A tick's first loop: what a round leaves (in plain Lean over memory). No conditions but those that each theorem names. -/
import Derived.Test.YtommamngklobkaaAw
namespace Go.Proofs.Ytommamngklobkaa
open Go.RowKit
set_option linter.unusedVariables false
def watched (S : List Int) (n : Nat) (x : Int) (B : Bu) : Bu := if B.lead = 0 ∧ B.fr ≠ [] then watchBu S n x B else B
def qBu (q : Nat) (B : Bu) : Bu := { B with q := some q }
theorem qBu_self {q : Nat} {B : Bu} (h : B.q = some q) : qBu q B = B := by unfold qBu; rw [← h]
theorem watched_yes {S : List Int} {n : Nat} {x : Int} {B : Bu} (h1 : B.lead = 0) (h2 : 0 < B.fr.length) : watched S n x B = watchBu S n x B := by
  unfold watched; rw [if_pos ⟨h1, fun e => by rw [e] at h2; simp at h2⟩]
theorem watched_no {S : List Int} {n : Nat} {x : Int} {B : Bu} (h1 : ¬ B.lead = 0 ∨ B.fr.length = 0) : watched S n x B = B := by
  unfold watched
  rw [if_neg]
  rintro ⟨h2, h3⟩
  rcases h1 with h | h
  · exact h h2
  · exact h3 (List.eq_nil_of_length_eq_zero h)
theorem BuOk.watched {S : List Int} {n : Nat} {x : Int} {B : Bu} (h : BuOk B) (hd : B.done ≤ 15) (q : Nat) : BuOk (qBu q (watched S n x B)) := by
  unfold Ytommamngklobkaa.watched
  split
  · exact ⟨h.lead, h.tail, by show 0 ≤ B.done + 1 ∧ B.done + 1 ≤ 20; have := h.done; omega, h.len, h.fr⟩
  · exact ⟨h.lead, h.tail, h.done, h.len, h.fr⟩
/-- What the bursts are while the first loop is under way. -/
def T1 (S : List Int) (n : Nat) (B : Int → Bu) (rem : Int → Bool) (Bf : Int → Bu) : Prop := ∀ x ∈ S, if rem x = true then Bf x = B x else ∃ q, Bf x = qBu q (watched S n x (B x))
theorem round1 {w w' : World} {d : Id} {S : List Int} {p : Int → Nat} {N q0 : Nat} {B Bf : Int → Bu} {rem : Int → Bool} {x : Int} {L : List Nat} (A : AirW w d S p (fun y => if rem y = true then N else N + 2 * d.n) Bf) (hx : x ∈ S) (rx : rem x = true) (T : T1 S d.n B rem Bf)
    (hd : (B x).done ≤ 15) (ho : Only L w w') (hL : ∀ y ∈ L, y = p x ∨ (B x).q = some y) (hb : BuW w' (p x) (N + 2 * d.n) (qBu q0 (watched S d.n x (B x)))) (hq : (B x).q = some q0 ∨ w.heap.size ≤ q0) :
    AirW w' d S p (fun y => if (rem y && !decide (y = x)) = true then N else N + 2 * d.n) (fun y => if y = x then qBu q0 (watched S d.n x (B x)) else Bf y) ∧
      T1 S d.n B (fun y => rem y && !decide (y = x)) (fun y => if y = x then qBu q0 (watched S d.n x (B x)) else Bf y) ∧ Fr d.K d.mo w w' := by
  have hBx : Bf x = B x := by have := T x hx; rw [if_pos rx] at this; exact this
  have hok : BuOk (B x) := by rw [← hBx]; exact A.ok x hx
  have hL' : ∀ y ∈ L, y = p x ∨ (Bf x).q = some y := fun y hy => by rw [hBx]; exact hL y hy
  refine ⟨(A.upd hx ho hL' hb (hok.watched hd q0) (fun q e => ?_)).congr (fun y hy => ?_) (fun _ _ => rfl), fun y hy => ?_, A.fr hx ho hL'⟩
  · rw [hBx]
    have : q = q0 := by simpa [qBu] using e.symm
    rw [this]; exact hq
  · by_cases e : y = x
    · simp [e]
    · simp [e]
  · by_cases e : y = x
    · subst e; simp; exact ⟨q0, rfl⟩
    · have := T y hy; simp [e]; exact this
theorem made_q {w : World} {p N : Nat} {B : Bu} {v : Value} (hb : BuW w p N B) (hblk : w.heap[p]? = some (.cells (bcells B v) 79 (0, 0))) (hf : FrW w v B.fr) (hq : B.q = none) :
    (BuW ((w.setCell ⟨p, 4, none⟩ (.map (some w.heap.size))).alloc (.map #[] 0)) p N (qBu w.heap.size B) ∧ ((w.setCell ⟨p, 4, none⟩ (.map (some w.heap.size))).alloc (.map #[] 0)).heap[p]? = some (.cells (bcells (qBu w.heap.size B) v) 79 (0, 0))) ∧
      Only [p] w ((w.setCell ⟨p, 4, none⟩ (.map (some w.heap.size))).alloc (.map #[] 0)) := by
  have ho : Only [p] w ((w.setCell ⟨p, 4, none⟩ (.map (some w.heap.size))).alloc (.map #[] 0)) := ((Only.refl [p] w).setCell (by simp) _).alloc _
  have hh : ((w.setCell ⟨p, 4, none⟩ (.map (some w.heap.size))).alloc (.map #[] 0)).heap[p]? = some (.cells (bcells (qBu w.heap.size B) v) 79 (0, 0)) := heap_old (heap_set hblk 4 _) _
  have hz : (w.setCell ⟨p, 4, none⟩ (.map (some w.heap.size))).heap.size = w.heap.size := by simp [World.setCell]
  refine ⟨⟨⟨⟨v, hh, hf.only ho (fun x hx => ?_)⟩, fun e => ?_, fun q e => ?_⟩, hh⟩, ho⟩
  · rw [show x = p by simpa using hx]; exact hb.nostr
  · cases e
  · obtain rfl : q = w.heap.size := by simpa [qBu] using e.symm
    have e1 : (qBu w.heap.size B).cf = fun _ => false := by funext y; exact hb.cl0 hq y
    rw [e1]
    have := BoM.made (w.setCell ⟨p, 4, none⟩ (.map (some w.heap.size)))
    rw [hz] at this
    exact this.mono (Nat.zero_le _)
end Go.Proofs.Ytommamngklobkaa
