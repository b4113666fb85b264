/- An air in memory with the bursts of those that are on; what stays when one burst is turned. No conditions but those that each theorem names. -/
import Derived.Test.YtommamngklobkaaWa
import Derived.Test.YtommamngklobkaaSt
namespace Go.Proofs.Ytommamngklobkaa
open Go.RowKit
set_option linter.unusedVariables false
/-- The air d; on are those of S; the burst of x lies in block p x, is B x, and its clear map was stored into at most N x times. -/
structure AirW (w : World) (d : Id) (S : List Int) (p : Int → Nat) (N : Int → Nat) (B : Int → Bu) : Prop where
  st : AirS w d
  on : OnM w d.mo S p
  sub : ∀ x ∈ S, 1 ≤ x ∧ x ≤ d.n
  bu : ∀ x ∈ S, BuW w (p x) (N x) (B x)
  ok : ∀ x ∈ S, BuOk (B x)
  K : ∀ x ∈ S, d.K ≤ p x ∧ ∀ q, (B x).q = some q → d.K ≤ q
  inj : ∀ x ∈ S, ∀ y ∈ S, x ≠ y → p x ≠ p y ∧ ∀ q q', (B x).q = some q → (B y).q = some q' → q ≠ q'
theorem BuW.q_lt {w : World} {p N q : Nat} {B : Bu} (h : BuW w p N B) (hq : B.q = some q) : q < w.heap.size := (h.cl1 q hq).lt
theorem BuW.p_ne {w : World} {p N q : Nat} {B : Bu} (h : BuW w p N B) {q : Nat} {f : Int → Bool} {M : Nat} (hq : BoM w q M f) : p ≠ q := by
  obtain ⟨es, c, hm⟩ := hq.isMap
  obtain ⟨v, h1, _⟩ := h.blk
  intro e; subst e; rw [hm] at h1; cases h1
theorem AirW.only {w w' : World} {d : Id} {S : List Int} {p : Int → Nat} {N : Int → Nat} {B : Int → Bu} {L : List Nat} (h : AirW w d S p N B) (ho : Only L w w') (hK : ∀ x ∈ L, d.K ≤ x) (hs : ∀ x ∈ L, NoStr w x)
    (hp : ∀ x ∈ S, p x ∉ L) (hq : ∀ x ∈ S, ∀ q, (B x).q = some q → q ∉ L) : AirW w' d S p N B :=
  ⟨h.st.only ho (fun x hx => Or.inr (hK x hx)), h.on.only ho (fun hm => by have := hK _ hm; have := h.st.lo; omega), h.sub,
    fun x hx => (h.bu x hx).only ho hs (hp x hx) (hq x hx), h.ok, h.K, h.inj⟩
theorem AirW.same {w w' : World} {d : Id} {S : List Int} {p : Int → Nat} {N : Int → Nat} {B : Int → Bu} (h : AirW w d S p N B) (ho : Only [] w w') : AirW w' d S p N B :=
  h.only ho (by simp) (by simp) (by simp) (by simp)
/-- One more block than those of the bursts has turned: an iterator, or a row of what came. -/
theorem AirW.other {w w' : World} {d : Id} {S : List Int} {p : Int → Nat} {N : Int → Nat} {B : Int → Bu} {r : Nat} (h : AirW w d S p N B) (ho : Only [r] w w') (hK : d.K ≤ r)
    (h1 : ∀ cur fz, w.heap[r]? ≠ some (.cells cur 9 fz)) (h2 : ∀ cur fz, w.heap[r]? ≠ some (.cells cur 79 fz)) (h3 : ∀ es c, w.heap[r]? ≠ some (.map es c)) : AirW w' d S p N B := by
  refine h.only ho (by simpa using hK) (fun x hx => by rw [show x = r by simpa using hx]; exact h1) (fun x hx he => ?_) (fun x hx q hq he => ?_)
  · obtain ⟨v, hb, _⟩ := (h.bu x hx).blk
    rw [show p x = r by simpa using he] at hb
    exact h2 _ _ hb
  · obtain ⟨es, c, hm⟩ := ((h.bu x hx).cl1 q hq).isMap
    rw [show q = r by simpa using he] at hm
    exact h3 _ _ hm
/-- The burst of x alone has turned. -/
theorem AirW.upd {w w' : World} {d : Id} {S : List Int} {p : Int → Nat} {N : Int → Nat} {B : Int → Bu} {L : List Nat} {N' : Nat} {B' : Bu} {x : Int} (h : AirW w d S p N B) (hx : x ∈ S) (ho : Only L w w') (hL : ∀ y ∈ L, y = p x ∨ (B x).q = some y)
    (hb : BuW w' (p x) N' B') (hok : BuOk B') (hq : ∀ q, B'.q = some q → (B x).q = some q ∨ w.heap.size ≤ q) :
    AirW w' d S p (fun y => if y = x then N' else N y) (fun y => if y = x then B' else B y) := by
  have hLK : ∀ y ∈ L, d.K ≤ y := fun y hy => by
    rcases hL y hy with rfl | e
    · exact (h.K x hx).1
    · exact (h.K x hx).2 y e
  have hLs : ∀ y ∈ L, NoStr w y := fun y hy => by
    rcases hL y hy with rfl | e
    · exact (h.bu x hx).nostr
    · obtain ⟨es, c, hm⟩ := ((h.bu x hx).cl1 y e).isMap; exact NoStr.map hm
  refine ⟨h.st.only ho (fun y hy => Or.inr (hLK y hy)), h.on.only ho (fun hm => by have := hLK _ hm; have := h.st.lo; omega), h.sub, fun y hy => ?_, fun y hy => ?_, fun y hy => ?_, fun y hy z hz hne => ?_⟩
  · by_cases e : y = x
    · subst e; simp only [if_true]; exact hb
    · simp only [if_neg e]
      refine (h.bu y hy).only ho hLs (fun hm => ?_) (fun q hq hm => ?_)
      · rcases hL _ hm with e1 | e1
        · exact (h.inj y hy x hx e).1 e1
        · exact (h.bu y hy).p_ne (q := p y) ((h.bu x hx).cl1 _ e1) rfl
      · rcases hL _ hm with e1 | e1
        · exact (h.bu x hx).p_ne (q := q) ((h.bu y hy).cl1 _ hq) e1.symm
        · exact (h.inj y hy x hx e).2 q q hq e1 rfl
  · by_cases e : y = x
    · subst e; simp only [if_true]; exact hok
    · simp only [if_neg e]; exact h.ok y hy
  · by_cases e : y = x
    · subst e
      simp only [if_true]
      refine ⟨(h.K y hy).1, fun q e1 => ?_⟩
      rcases hq q e1 with e2 | e2
      · exact (h.K y hy).2 q e2
      · have := h.st.lo; omega
    · simp only [if_neg e]; exact h.K y hy
  · refine ⟨(h.inj y hy z hz hne).1, fun q q' e1 e2 => ?_⟩
    by_cases ey : y = x
    · subst ey
      have ez : ¬ z = y := Ne.symm hne
      simp only [if_true] at e1
      simp only [if_neg ez] at e2
      rcases hq q e1 with e3 | e3
      · exact (h.inj y hy z hz hne).2 q q' e3 e2
      · have := (h.bu z hz).q_lt e2; omega
    · simp only [if_neg ey] at e1
      by_cases ez : z = x
      · subst ez
        simp only [if_true] at e2
        rcases hq q' e2 with e3 | e3
        · exact (h.inj y hy z hz hne).2 q q' e1 e3
        · have := (h.bu y hy).q_lt e1; omega
      · simp only [if_neg ez] at e2
        exact (h.inj y hy z hz hne).2 q q' e1 e2
theorem AirW.fr {w w' : World} {d : Id} {S : List Int} {p : Int → Nat} {N : Int → Nat} {B : Int → Bu} {L : List Nat} {x : Int} (h : AirW w d S p N B) (hx : x ∈ S) (ho : Only L w w') (hL : ∀ y ∈ L, y = p x ∨ (B x).q = some y) : Fr d.K d.mo w w' :=
  Fr.of_only ho (fun y hy => by
    rcases hL y hy with rfl | e
    · exact Or.inr (h.K x hx).1
    · exact Or.inr ((h.K x hx).2 y e))
/-- The same air, said otherwise. -/
theorem AirW.congr {w : World} {d : Id} {S : List Int} {p : Int → Nat} {N N' : Int → Nat} {B B' : Int → Bu} (h : AirW w d S p N B) (hN : ∀ x ∈ S, N x ≤ N' x) (hB : ∀ x ∈ S, B x = B' x) : AirW w d S p N' B' :=
  ⟨h.st, h.on, h.sub, fun x hx => by rw [← hB x hx]; exact (h.bu x hx).mono (hN x hx), fun x hx => by rw [← hB x hx]; exact h.ok x hx, fun x hx => by rw [← hB x hx]; exact h.K x hx,
    fun x hx y hy hne => by rw [← hB x hx, ← hB y hy]; exact h.inj x hx y hy hne⟩
theorem OnR.iter {w : World} {b r : Nat} {S : List Int} {p : Int → Nat} {rem : Int → Bool} (h : OnR w b r S p rem) : ∃ m s e c, w.heap[r]? = some (.mapIter m s e c) := by
  obtain ⟨n, D, left, cnt, ⟨es, clock, since, seen, c0, h1, F, hs, hD, h2, rest⟩, k⟩ := h
  exact ⟨_, _, _, _, h2⟩
/-- An iterator's step leaves the air as it is. -/
theorem AirW.next {w w' : World} {d : Id} {S T : List Int} {p p' : Int → Nat} {N : Int → Nat} {B : Int → Bu} {r : Nat} {rem : Int → Bool} (h : AirW w d S p N B) (hr : OnR w d.mo r T p' rem) (ho : Only [r] w w') (hK : d.K ≤ r) : AirW w' d S p N B := by
  obtain ⟨m, s, e, c, hi⟩ := hr.iter
  exact h.other ho hK (fun _ _ => by rw [hi]; simp) (fun _ _ => by rw [hi]; simp) (fun _ _ => by rw [hi]; simp)
end Go.Proofs.Ytommamngklobkaa
