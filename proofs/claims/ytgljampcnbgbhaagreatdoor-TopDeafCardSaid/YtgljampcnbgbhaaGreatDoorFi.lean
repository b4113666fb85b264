/- Pieces of a run between states that are written down. No conditions but those that each theorem names. -/
import Derived.Test.YtgljampcnbgbhaaGreatDoorFe
import Derived.Test.YtgljampcnbgbhaaGreatDoorFh
set_option linter.unusedVariables false
set_option linter.unusedSimpArgs false
namespace Go.Proofs.YtgljampcnbgbhaaGreatDoor.Ev
open Go Go.RowKit
noncomputable section

def ofTs {R : Type} : List (Nat × Value) → Tr Value → (Tr Value → R) → R
  | [], t, K => K t
  | (k, x) :: l, t, K => t.setK k (some x) fun t => ofTs l t K
def buildT : List (Nat × Value) → Tr Value → Tr Value
  | [], t => t
  | (k, x) :: l, t => buildT l (t.set k (some x))
theorem ofTs_eq {R : Type} : ∀ (l : List (Nat × Value)) (t : Tr Value) (K : Tr Value → R), ofTs l t K = K (buildT l t)
  | [], _, _ => rfl
  | (k, x) :: l, t, K => by simp only [ofTs, Tr.setK_eq]; exact ofTs_eq l _ K
theorem get_buildT : ∀ (l : List (Nat × Value)) (t : Tr Value) (k : Nat) (x : Value), (buildT l t).get k = some x → (k, x) ∈ l ∨ t.get k = some x
  | [], _, _, _, h => .inr h
  | (j, y) :: l, t, k, x, h => by
    rcases get_buildT l _ k x h with g | g
    · exact .inl (by simp [g])
    · rw [Tr.get_set] at g
      split at g
      · rename_i e
        simp only [Option.some.injEq] at g
        rw [e, ← g]; exact .inl (by simp)
      · exact .inr g
/-- A state that is written down: its blocks are S; all below n0 is as it was in w0; the numbers from cap on are free; below k0 it reads as ρ0 does. -/
structure At (C : Cx) (n0 : Nat) (w0 : World) (k0 : Nat) (ρ0 : Ren) (cap : Nat) (S : List (Nat × Blk)) (ρ : Ren) (w : World) : Prop where
  wr : WR C ρ (buildP S .e).get w
  glob : Glob ρ
  own : ∀ i, Own ρ (buildP S .e).get i → n0 ≤ i
  size : n0 ≤ w.heap.size
  old : ∀ i, i < n0 → w.heap[i]? = w0.heap[i]?
  os : w.os = w0.os
  tape : w.tape = w0.tape
  output : w.output = w0.output
  free : ∀ b, cap ≤ b → ρ b = none
  base : k0 ≤ cap
  ren : ∀ b, b < k0 → ρ b = ρ0 b
section
variable {C C' : Cx} {σ τ : Sig} {Y : Nat → Int} {n0 : Nat} {w0 : World} {k0 : Nat} {ρ0 : Ren} {cap cap' : Nat} {S S' : List (Nat × Blk)} {ρ ρ' : Ren} {w w' : World}
theorem At.next (h : At C n0 w0 k0 ρ0 cap S ρ w) {H' : Heap} {c' : Nat} (he : Ext C ρ (buildP S .e).get cap w ρ' H'.get c' w') (h2 : Two C C' σ τ Y) (hle : leH σ τ cap' H' S' = true) (hcap : 16 ≤ cap' ∧ k0 ≤ cap') : At C' n0 w0 k0 ρ0 cap' S' (restr ρ' cap') w' := by
  obtain ⟨k1, k2⟩ := leH_sound h2 hle he.wr
  have hf : Fresh ρ cap c' := fun b h1 _ => h.free b h1
  refine ⟨k1, fun g hg => ?_, fun i hi => ?_, Nat.le_trans h.size he.size, fun i hi => ?_, he.os.trans h.os, he.tape.trans h.tape, he.output.trans h.output, fun b hb => ?_, hcap.2, fun b hb => ?_⟩
  · obtain ⟨pl, q1, q2⟩ := (h.glob.sub (he.sub hf)) g hg
    exact ⟨pl, restr_some q1 (Nat.lt_of_lt_of_le hg hcap.1), q2⟩
  · rcases Nat.lt_or_ge i w.heap.size with hlt | hge
    · exact h.own i (he.own i hlt (k2 i hi))
    · exact Nat.le_trans h.size hge
  · rw [← h.old i hi]
    exact he.old i (Nat.lt_of_lt_of_le hi h.size) fun ho => by have := h.own i ho; omega
  · unfold restr; rw [if_neg (by omega)]
  · have := h.base
    unfold restr; rw [if_pos (by omega), he.ren b (by omega), h.ren b hb]
def eqEx : Ex → Ex → Bool
  | .normal, .normal => true
  | .exit i, .exit j => Nat.beq i j
  | .goto i, .goto j => Nat.beq i j
  | .ret, .ret => true
  | _, _ => false
theorem eqEx_eq {x y : Ex} (h : eqEx x y = true) : x = y := by
  cases x <;> cases y <;> simp only [eqEx, beq_iff] at h <;> first | rfl | (rw [h]) | cases h
variable {memo : Option Blk} {nt : Nat} {cd : Code} {T T' : List (Nat × Value)} {x : Ex}
/-- A piece of code, run from one state to the next. -/
def pieceB (memo : Option Blk) (nt : Nat) (cd : Code) (S : List (Nat × Blk)) (T : List (Nat × Value)) (cap : Nat) (x : Ex) (σ τ : Sig) (cap' : Nat) (S' : List (Nat × Blk)) (T' : List (Nat × Value)) : Bool := ofPairs S .e fun H => ofTs T .e fun U => match codeF env nt (fun _ => callF env (hooksOf env memo) 100) 4000 none cd U H cap with
  | some (y, U', H', _) => match eqEx x y, leTs σ τ cap' U' T' with
    | true, true => leH σ τ cap' H' S'
    | _, _ => false
  | none => false
/-- Temporaries that are written down, out of what is known of them. -/
theorem SR.next {U' : Tr Value} {ds : List Deferred} {a : Act} (h2 : Two C C' σ τ Y) (h : leTs σ τ cap' U' T' = true) (hs : SR C ρ' nt ds U' a) : SR C' (restr ρ' cap') nt ds (buildT T' .e) a := by
  refine ⟨fun t v ht => ?_, hs.size, hs.defers⟩
  rcases get_buildT T' .e t v ht with hm | hm
  · obtain ⟨u, q1, q2⟩ := leTs_mem h t v hm
    exact leV_sound h2 20 q2 (hs.tmps t u q1)
  · rw [Tr.get_e] at hm; cases hm
theorem piece (hC : C.Good) (hP : C.P = Tryz.prog) (hcall : CallerSound C (callF env (hooksOf env memo) 100)) (h : pieceB memo nt cd S T cap x σ τ cap' S' T' = true) (hcap : 16 ≤ cap' ∧ k0 ≤ cap') (h2 : Two C C' σ τ Y) {ds : List Deferred} {a : Act}
    (hs : SR C ρ nt ds (buildT T .e) a) (hat : At C n0 w0 k0 ρ0 cap S ρ w) {Q : Exit → Act → World → Prop} (hQ : ∀ ρ' a' w', SR C' ρ' nt ds (buildT T' .e) a' → At C' n0 w0 k0 ρ0 cap' S' ρ' w' → Q (exOf x) a' w') : cd.wp C.P Q a w := by
  unfold pieceB at h
  rw [ofPairs_eq, ofTs_eq] at h
  split at h
  · rename_i y U' H' c' hcd
    split at h
    · rename_i hx hT
      have hx := eqEx_eq hx
      subst hx
      have said := codeF_sound (ds := ds) hC hP.symm (fun _ => hcall) (drawn_ok hC hP.symm (by rw [hP]; exact mixed) nt) 4000 none cd _ _ cap _ hcd
      refine Code.wp_mono (fun e a' w' ⟨he, ρ', k1, k2⟩ => ?_) (said.wp rfl ρ a w hs hat.wr hat.glob (fun b h1 _ => hat.free b h1))
      subst he
      exact hQ _ a' w' (k1.next h2 hT) (hat.next k2 h2 h hcap)
    · cases h
  · cases h
end
end
end Go.Proofs.YtgljampcnbgbhaaGreatDoor.Ev
