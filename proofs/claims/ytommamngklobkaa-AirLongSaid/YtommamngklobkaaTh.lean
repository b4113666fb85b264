/- A tick's third loop and its end (in plain Lean over memory). No conditions but those that each theorem names. -/
import Derived.Test.YtommamngklobkaaTg
namespace Go.Proofs.Ytommamngklobkaa
open Go.RowKit
set_option linter.unusedVariables false
theorem AirW.del {w w' : World} {d : Id} {S S' : List Int} {p : Int → Nat} {N : Int → Nat} {B : Int → Bu} (h : AirW w d S p N B) (ho : Only [d.mo] w w') (hon : OnM w' d.mo S' p) (hs : ∀ x ∈ S', x ∈ S) : AirW w' d S' p N B := by
  obtain ⟨es, c, hm⟩ := h.on.isMap
  have lo := h.st.lo
  exact ⟨h.st.only ho (by simp), hon, fun x hx => h.sub x (hs x hx),
    fun x hx => (h.bu x (hs x hx)).only ho (fun y hy => by rw [show y = d.mo by simpa using hy]; exact NoStr.map hm) (fun hp => by have := (h.K x (hs x hx)).1; simp at hp; omega) (fun q hq hp => by have := (h.K x (hs x hx)).2 q hq; simp at hp; omega),
    fun x hx => h.ok x (hs x hx), fun x hx => h.K x (hs x hx), fun x hx y hy => h.inj x (hs x hx) y (hs y hy)⟩
theorem filt_del {S : List Int} {rem keep : Int → Bool} {x : Int} (hk : keep x = false) :
    (S.filter fun y => rem y || keep y).filter (fun z => !decide (z = x)) = S.filter fun y => (rem y && !decide (y = x)) || keep y := by
  rw [List.filter_filter]
  apply List.filter_congr
  intro y _
  by_cases e : y = x
  · subst e; simp [hk]
  · simp [e]
theorem filt_keep {S : List Int} {rem keep : Int → Bool} {x : Int} (hk : keep x = true) :
    (S.filter fun y => rem y || keep y) = S.filter fun y => (rem y && !decide (y = x)) || keep y := by
  apply List.filter_congr
  intro y _
  by_cases e : y = x
  · subst e; simp [hk]
  · simp [e]
theorem filt_start (S : List Int) (keep : Int → Bool) : S = S.filter fun y => decide (y ∈ S) || keep y := by
  symm
  rw [List.filter_eq_self]
  intro y hy; simp [hy]
theorem filt_end {S : List Int} {rem keep : Int → Bool} (h : ∀ x, rem x = false) : (S.filter fun y => rem y || keep y) = S.filter keep := by
  apply List.filter_congr
  intro y _; simp [h y]
theorem GotR.base {w : World} {base base' : Nat} {v : Value} {gs : List G} (h : GotR w base v gs) (hb : base' ≤ base) : GotR w base' v gs := by
  obtain ⟨h1, h2 | ⟨g, cap, cur, hv, hg, r⟩⟩ := h
  · exact ⟨h1, Or.inl h2⟩
  · exact ⟨h1, Or.inr ⟨g, cap, cur, hv, Nat.le_trans hb hg, r⟩⟩
theorem GotR.mo {w w' : World} {base mo : Nat} {v : Value} {gs : List G} (h : GotR w base v gs) (ho : Only [mo] w w') (hm : mo < base) : GotR w' base v gs := h.only ho (by simpa using hm)
theorem fam_end {w : World} {d : Id} {S : List Int} {p : Int → Nat} {N : Int → Nat} {C : Int → Bu} (h : AirW w d S p N (fam C d.n)) : AirW w d S p N (fun x => stepped (C x)) :=
  h.congr (fun _ _ => Nat.le_refl _) (fun x hx => by unfold fam; rw [if_pos (h.sub x hx).2])
def keepB (C : Int → Bu) (x : Int) : Bool := !decide (leftI (stepped (C x)) = 0)
/-- What a tick gives back, and leaves. -/
def TickP (w : World) (d : Id) (S : List Int) (p : Int → Nat) (N : Nat) (B : Int → Bu) (e : Ending) (w' : World) : Prop :=
  ∃ (v : Value) (C : Int → Bu), e = .returned v ∧ (∀ x ∈ S, ∃ q, C x = qBu q (watched S d.n x (B x))) ∧ GotR w' w.heap.size v (outsK d.n S C d.n) ∧
    AirW w' d (S.filter (keepB C)) p (fun _ => N + 2 * d.n) (fun x => stepped (C x)) ∧ Fr d.K d.mo w w'
end Go.Proofs.Ytommamngklobkaa
