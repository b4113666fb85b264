/- Pieces of code in a row, one temporary handed through. No conditions but those that each theorem names. -/
import Derived.Test.YtgljampcnbgbhaaGreatDoorFl
set_option linter.unusedVariables false
set_option linter.unusedSimpArgs false
namespace Go.Proofs.YtgljampcnbgbhaaGreatDoor.Ev
open Go Go.RowKit
noncomputable section
/-- Codes in a row, each to its end. -/
def listF (memo : Option Blk) (nt : Nat) : List Code → Tr Value → Heap → Nat → Option St
  | [], T, H, c => some (T, H, c)
  | cd :: l, T, H, c => match codeF env nt (fun _ => callF env (hooksOf env memo) 100) 4000 none cd T H c with
    | some (.normal, T, H, c) => listF memo nt l T H c
    | _ => none
/-- Codes in a row, ahead of another. -/
def inRow : List Code → Code → Code
  | [], r => r
  | cd :: l, r => .seq cd (inRow l r)
section
variable {C C' : Cx} {σ τ : Sig} {Y : Nat → Int} {n0 : Nat} {w0 : World} {k0 : Nat} {ρ0 : Ren} {cap cap' : Nat} {S S' : List (Nat × Blk)} {ρ ρ' : Ren} {w w' : World} {memo : Option Blk} {nt : Nat} {cd : Code} {T T' : List (Nat × Value)} {ds : List Deferred}
theorem listF_sound (hC : C.Good) (hP : C.P = Tryz.prog) (hcall : CallerSound C (callF env (hooksOf env memo) 100)) : ∀ (l : List Code) {U : Tr Value} {H : Heap} {c : Nat} {s : St}, listF memo nt l U H c = some s →
    c ≤ s.2.2 ∧ ∀ (r : Code) (Q : Exit → Act → World → Prop) (ρ : Ren) (a : Act) (w : World), SR C ρ nt ds U a → WR C ρ H.get w → Glob ρ → Fresh ρ c s.2.2 →
      (∀ ρ' a' w', SR C ρ' nt ds s.1 a' → Ext C ρ H.get c w ρ' s.2.1.get s.2.2 w' → r.wp C.P Q a' w') → (inRow l r).wp C.P Q a w := by
  intro l
  induction l with
  | nil =>
    intro U H c s h
    simp only [listF, Option.some.injEq] at h
    subst h
    exact ⟨Nat.le_refl _, fun r Q ρ a w hs hW hG hf hQ => hQ ρ a w hs (Ext.refl hW)⟩
  | cons cd l ih =>
    intro U H c s h
    simp only [listF] at h
    split at h
    · rename_i U1 H1 c1 h1
      have said := codeF_sound (ds := ds) hC hP.symm (fun _ => hcall) (drawn_ok hC hP.symm (by rw [hP]; exact mixed) nt) 4000 none cd _ _ c _ h1
      obtain ⟨i1, i2⟩ := ih h
      have l1 : c ≤ c1 := said.le
      refine ⟨Nat.le_trans l1 i1, fun r Q ρ a w hs hW hG hf hQ => ?_⟩
      refine wp_seq (Code.wp_mono (fun e a1 w1 ⟨he, ρ1, k1, k2⟩ => ?_) (said.wp rfl ρ a w hs hW hG (hf.mono (Nat.le_refl _) i1)))
      subst he
      have hf1 := hf.mono (Nat.le_refl _) i1
      refine i2 r Q ρ1 a1 w1 k1 k2.wr (hG.sub (k2.sub hf1)) (k2.fresh hf) fun ρ2 a2 w2 m1 m2 => hQ ρ2 a2 w2 m1 (k2.trans m2 fun b k hb hc => hW.notFresh hf b k hb ⟨Nat.le_trans l1 hc.1, hc.2⟩)
    · cases h
/-- What the temporaries hold that are written down, and x at 0. -/
def mkT (T : List (Nat × Value)) (x : Value) : Tr Value := (buildT T .e).set 0 (some x)
/-- Codes in a row from one state to the next; what temporary 0 holds behind them. -/
def listB (memo : Option Blk) (nt : Nat) (l : List Code) (S : List (Nat × Blk)) (T : List (Nat × Value)) (cap : Nat) (σ τ : Sig) (cap' : Nat) (S' : List (Nat × Blk)) (T' : List (Nat × Value)) (x : Value) : Bool × Option Value :=
  ofPairs S .e fun H => ofTs T .e fun U => U.setK 0 (some x) fun U => match listF memo nt l U H cap with
  | some (U', H', _) => (match leTs σ τ cap' U' T' with
    | true => leH σ τ cap' H' S'
    | _ => false, U'.get 0)
  | none => (false, none)
theorem SR.nextX {U' : Tr Value} {ds : List Deferred} {a : Act} {x : Value} (h2 : Two C C' σ τ Y) (h : leTs σ τ cap' U' T' = true) (hx : U'.get 0 = some x) (haf : af 5 x = true) (hs : SR C ρ' nt ds U' a) : SR C' (restr ρ' cap') nt ds (mkT T' x) a := by
  have k := SR.next (T' := T') h2 h hs
  refine ⟨fun t v ht => ?_, k.size, k.defers⟩
  unfold mkT at ht
  rw [Tr.get_set] at ht
  split at ht
  · rename_i e
    subst e
    cases ht
    have := VR_af 5 _ _ haf (hs.tmps 0 x hx)
    rw [this]
    exact VR_self_af 5 _ haf
  · exact k.tmps t v ht
theorem row (hC : C.Good) (hP : C.P = Tryz.prog) (hcall : CallerSound C (callF env (hooksOf env memo) 100)) {l : List Code} {x : Value} (h : listB memo nt l S T cap σ τ cap' S' T' x = (true, some x)) (haf : af 5 x = true) (hcap : 16 ≤ cap' ∧ k0 ≤ cap') (h2 : Two C C' σ τ Y) {a : Act}
    (hs : SR C ρ nt ds (mkT T x) a) (hat : At C n0 w0 k0 ρ0 cap S ρ w) {r : Code} {Q : Exit → Act → World → Prop} (hQ : ∀ ρ' a' w', SR C' ρ' nt ds (mkT T' x) a' → At C' n0 w0 k0 ρ0 cap' S' ρ' w' → r.wp C.P Q a' w') : (inRow l r).wp C.P Q a w := by
  unfold listB at h
  rw [ofPairs_eq, ofTs_eq, Tr.setK_eq] at h
  split at h
  · rename_i U' H' c' hcd
    simp only [Prod.mk.injEq] at h
    obtain ⟨hl, hx⟩ := h
    split at hl
    · rename_i hT
      exact (listF_sound (ds := ds) hC hP hcall l hcd).2 r Q ρ a w hs hat.wr hat.glob (fun b h1 _ => hat.free b h1) fun ρ' a' w' k1 k2 => hQ _ a' w' (k1.nextX h2 hT hx haf) (hat.next k2 h2 hl hcap)
    · cases hl
  · cases h
end
end
end Go.Proofs.YtgljampcnbgbhaaGreatDoor.Ev
