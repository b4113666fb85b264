/- Rounds of a loop, some at a time. No conditions but those that each theorem names. -/
import Derived.Test.YtgljampcnbgbhaaGreatDoorFi
set_option linter.unusedVariables false
set_option linter.unusedSimpArgs false
namespace Go.Proofs.YtgljampcnbgbhaaGreatDoor.Ev
open Go Go.RowKit
noncomputable section
def chainF (memo : Option Blk) (nt : Nat) (cd : Code) : Nat → Tr Value → Heap → Nat → Option St
  | 0, T, H, c => some (T, H, c)
  | n + 1, T, H, c => match codeF env nt (fun _ => callF env (hooksOf env memo) 100) 4000 none cd T H c with
    | some (.normal, T, H, c) => chainF memo nt cd n T H c
    | _ => none
section
variable {C C' : Cx} {σ τ : Sig} {Y : Nat → Int} {n0 : Nat} {w0 : World} {k0 : Nat} {ρ0 : Ren} {cap cap' : Nat} {S S' : List (Nat × Blk)} {ρ ρ' : Ren} {w w' : World} {memo : Option Blk} {nt : Nat} {cd : Code} {T T' : List (Nat × Value)} {ds : List Deferred}
theorem chainF_sound (hC : C.Good) (hP : C.P = Tryz.prog) (hcall : CallerSound C (callF env (hooksOf env memo) 100)) : ∀ (n : Nat) {U : Tr Value} {H : Heap} {c : Nat} {s : St}, chainF memo nt cd n U H c = some s →
    c ≤ s.2.2 ∧ ∀ (m : Nat) (Q : Exit → Act → World → Prop) (ρ : Ren) (a : Act) (w : World), SR C ρ nt ds U a → WR C ρ H.get w → Glob ρ → Fresh ρ c s.2.2 →
      (∀ ρ' a' w', SR C ρ' nt ds s.1 a' → Ext C ρ H.get c w ρ' s.2.1.get s.2.2 w' → Code.rounds C.P cd Q m a' w') → Code.rounds C.P cd Q (n + m) a w := by
  intro n
  induction n with
  | zero =>
    intro U H c s h
    simp only [chainF, Option.some.injEq] at h
    subst h
    refine ⟨Nat.le_refl _, fun m Q ρ a w hs hW hG hf hQ => ?_⟩
    rw [Nat.zero_add]
    exact hQ ρ a w hs (Ext.refl hW)
  | succ n ih =>
    intro U H c s h
    simp only [chainF] at h
    split at h
    · rename_i U1 H1 c1 h1
      have said := codeF_sound (ds := ds) hC hP.symm (fun _ => hcall) (drawn_ok hC hP.symm (by rw [hP]; exact mixed) nt) 4000 none cd _ _ c _ h1
      obtain ⟨i1, i2⟩ := ih h
      have l1 : c ≤ c1 := said.le
      refine ⟨Nat.le_trans l1 i1, fun m Q ρ a w hs hW hG hf hQ => ?_⟩
      have e : n + 1 + m = (n + m) + 1 := by omega
      rw [e, rounds_succ]
      refine Code.wp_mono (fun e a1 w1 ⟨he, ρ1, k1, k2⟩ => ?_) (said.wp rfl ρ a w hs hW hG (hf.mono (Nat.le_refl _) i1))
      subst he
      have hf1 := hf.mono (Nat.le_refl _) i1
      refine i2 m Q ρ1 a1 w1 k1 k2.wr (hG.sub (k2.sub hf1)) (k2.fresh hf) fun ρ2 a2 w2 m1 m2 => hQ ρ2 a2 w2 m1 (k2.trans m2 fun b k hb hc => hW.notFresh hf b k hb ⟨Nat.le_trans l1 hc.1, hc.2⟩)
    · cases h
/-- Rounds of a loop from one state to the next. -/
def chainB (memo : Option Blk) (nt : Nat) (cd : Code) (n : Nat) (S : List (Nat × Blk)) (T : List (Nat × Value)) (cap : Nat) (σ τ : Sig) (cap' : Nat) (S' : List (Nat × Blk)) (T' : List (Nat × Value)) : Bool :=
  ofPairs S .e fun H => ofTs T .e fun U => match chainF memo nt cd n U H cap with
  | some (U', H', _) => match leTs σ τ cap' U' T' with
    | true => leH σ τ cap' H' S'
    | _ => false
  | none => false
theorem chain (hC : C.Good) (hP : C.P = Tryz.prog) (hcall : CallerSound C (callF env (hooksOf env memo) 100)) {n : Nat} (h : chainB memo nt cd n S T cap σ τ cap' S' T' = true) (hcap : 16 ≤ cap' ∧ k0 ≤ cap') (h2 : Two C C' σ τ Y) {a : Act}
    (hs : SR C ρ nt ds (buildT T .e) a) (hat : At C n0 w0 k0 ρ0 cap S ρ w) {Q : Exit → Act → World → Prop} {m : Nat} (hQ : ∀ ρ' a' w', SR C' ρ' nt ds (buildT T' .e) a' → At C' n0 w0 k0 ρ0 cap' S' ρ' w' → Code.rounds C.P cd Q m a' w') : Code.rounds C.P cd Q (n + m) a w := by
  unfold chainB at h
  rw [ofPairs_eq, ofTs_eq] at h
  split at h
  · rename_i U' H' c' hcd
    split at h
    · rename_i hT
      exact (chainF_sound (ds := ds) hC hP hcall n hcd).2 m Q ρ a w hs hat.wr hat.glob (fun b h1 _ => hat.free b h1) fun ρ' a' w' k1 k2 => hQ _ a' w' (k1.next h2 hT) (hat.next k2 h2 h hcap)
    · cases h
  · cases h
end
end
end Go.Proofs.YtgljampcnbgbhaaGreatDoor.Ev
