/- A tick of a crowd (contract), and what a slice of what came holds. No conditions but those that each theorem names. -/
import Derived.Test.YtommamngklobkaaAk
namespace Go.Proofs.Ytommamngklobkaa
open Go.RowKit
set_option linter.unusedVariables false
theorem flat_at (gs : List G) (j c : Nat) (h : j < gs.length) (hc : c < 4) : (gs.flatMap G.cells)[j * 4 + c]? = gs[j].cells[c]? := by
  induction gs generalizing j with
  | nil => simp at h
  | cons g r ih =>
    rw [List.flatMap_cons]
    match j with
    | 0 =>
      rw [Nat.zero_mul, Nat.zero_add, List.getElem?_append_left (by show c < 4; omega)]; rfl
    | j + 1 =>
      have hl : g.cells.length = 4 := rfl
      rw [List.getElem?_append_right (by rw [hl]; omega), hl, show (j + 1) * 4 + c - 4 = j * 4 + c by omega]
      exact ih j (by simpa using h)
theorem GotR.at {w : World} {base : Nat} {v : Value} {gs : List G} (h : GotR w base v gs) : ∃ a cap, v = .slice a gs.length cap ∧ gs.length ≤ cap ∧ cap ≤ maxLen ∧ (∀ j, (hj : j < gs.length) → ∃ g, a = some ⟨g, 0, none⟩ ∧ w.cell? ⟨g, j * 4, none⟩ = some (.int .i64 gs[j].f) ∧ w.cell? ⟨g, j * 4 + 1, none⟩ = some (.int .i64 gs[j].t) ∧ w.cell? ⟨g, j * 4 + 2, none⟩ = some (.string gs[j].s) ∧ w.cell? ⟨g, j * 4 + 3, none⟩ = some (.bool false)) := by
  rcases h.shape with ⟨rfl, rfl⟩ | ⟨g, cap, rfl, _, _, h1, h2, hc⟩
  · exact ⟨none, 0, rfl, Nat.le_refl _, by unfold maxLen; omega, fun j hj => by simp at hj⟩
  · refine ⟨_, cap, rfl, h1, h2, fun j hj => ⟨g, rfl, ?_, ?_, ?_, ?_⟩⟩
    · have := hc (j * 4 + 0) _ ((flat_at gs j 0 hj (by omega)).trans rfl)
      rw [Addr.add_lit, Nat.zero_add] at this; exact this
    · have := hc (j * 4 + 1) _ ((flat_at gs j 1 hj (by omega)).trans rfl)
      rw [Addr.add_lit, Nat.zero_add] at this; exact this
    · have := hc (j * 4 + 2) _ ((flat_at gs j 2 hj (by omega)).trans rfl)
      rw [Addr.add_lit, Nat.zero_add] at this; exact this
    · have := hc (j * 4 + 3) _ ((flat_at gs j 3 hj (by omega)).trans rfl)
      rw [Addr.add_lit, Nat.zero_add] at this; exact this
def want (n : Nat) (S : List Int) : Int := if S.length = 1 then (n : Int) - 1 else 0
/-- Behind t ticks, c frames having come. -/
def CrowdI (d : Id) (S : List Int) (s : ByteArray) (t : Nat) (c : Int) (w : World) : Prop :=
  ((t : Int) < longI s ∧ c = 0 ∧ ∃ p B N, AirW w d S p (fun _ => N) B ∧ Cr S d.n (fun _ => s) t B ∧ N ≤ 32 * t) ∨ ((t : Int) = longI s ∧ c = want d.n S ∧ ∃ p N B, AirW w d [] p N B)
def CrowdT (w : World) (d : Id) (S : List Int) (s : ByteArray) (t : Nat) (e : Ending) (w' : World) : Prop :=
  ∃ v gs, e = .returned v ∧ GotR w' w.heap.size v gs ∧ (∀ g ∈ gs, g.s = s) ∧ gs.length ≤ 256 ∧ CrowdI d S s (t + 1) (gs.length : Nat) w' ∧ Fr d.K d.mo w w'
theorem CrowdI.only {d : Id} {S : List Int} {s : ByteArray} {t : Nat} {c : Int} {w w' : World} (h : CrowdI d S s t c w) (ho : Only [] w w') : CrowdI d S s t c w' := by
  rcases h with ⟨h1, h2, p, B, N, h3, h4⟩ | ⟨h1, h2, p, N, B, h3⟩
  · exact Or.inl ⟨h1, h2, p, B, N, h3.same ho, h4⟩
  · exact Or.inr ⟨h1, h2, p, N, B, h3.same ho⟩
theorem crowd_tick {w : World} {d : Id} {S : List Int} {s : ByteArray} {t : Nat} {c : Int} (h : CrowdI d S s t c w) (hs : s.size ≤ 333) (ht : (t : Int) < longI s) (hn : S.Nodup) (hsub : ∀ x ∈ S, 1 ≤ x ∧ x ≤ (d.n : Int)) :
    Calls Try.prog 17 #[.pointer (some ⟨d.A, 0, none⟩)] w (CrowdT w d S s t) := by
  have hl := longI_bd hs
  rcases h with ⟨_, _, p, B, N, ha, hc, hN⟩ | ⟨h0, _⟩
  · have n16 := ha.st.n16
    have hlen : ∀ C, (outsK d.n S C d.n).length ≤ 256 := fun C => Nat.le_trans (outsK_len d.n S C d.n) (Nat.mul_le_mul n16.2 n16.2)
    by_cases hm : (t : Int) + 1 < longI s
    · refine (tick17 ha (by omega) (fun x hx => by have := (hc x hx).2.2.2.1; omega) (hc.ready (by omega) ha.ok)).mono ?_
      rintro e w' ⟨v, C, he, hC, hg, ha', hf⟩
      have h1 := hc.tick (by omega) hC
      obtain ⟨h2, h3, h4⟩ := h1.mid (fun x hx => hm)
      rw [h2] at hg
      rw [h3] at ha'
      exact ⟨v, [], he, hg, by simp, by simp, Or.inl ⟨by omega, rfl, p, _, _, ha', by simpa using h4, by omega⟩, hf⟩
    · refine (tick_last ha (by omega) hc (by omega) (by omega) (fun x hx => by omega)).mono ?_
      rintro e w' ⟨v, C, he, hg, h1, h2, ha', hf⟩
      refine ⟨v, _, he, hg, outsK_s (fun x hx g hg' => ?_) d.n, hlen C, Or.inr ⟨by omega, h1.count (by omega) (fun x hx => by omega) hn hsub, p, _, _, ha'⟩, hf⟩
      rw [h2 x hx] at hg'
      exact outL_s d.n g hg'
  · omega
end Go.Proofs.Ytommamngklobkaa
