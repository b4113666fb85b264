/- One piece by itself; a body's end; readings of the numbers that are not known. No conditions but those that each theorem names. -/
import Derived.Test.YtgljampcnbgbhaaGreatDoorGc
import Derived.Test.YtgljampcnbgbhaaGreatDoorFr
set_option linter.unusedVariables false
set_option linter.unusedSimpArgs false
namespace Go.Proofs.YtgljampcnbgbhaaGreatDoor.Ev
open Go Go.RowKit
noncomputable section
section
variable {C C' : Cx} {σ τ : Sig} {Y : Nat → Int} {n0 : Nat} {w0 : World} {k0 : Nat} {ρ0 : Ren} {cap cap' : Nat} {S S' : List (Nat × Blk)} {ρ ρ' : Ren} {w w' : World} {memo : Option Blk} {nt : Nat} {cd : Code} {T T' : List (Nat × Value)} {ds : List Deferred}
theorem row1 (hC : C.Good) (hP : C.P = Tryz.prog) (hcall : CallerSound C (callF env (hooksOf env memo) 100)) {x : Value} (h : listB memo nt [cd] S T cap σ τ cap' S' T' x = (true, some x)) (haf : af 5 x = true) (hcap : 16 ≤ cap' ∧ k0 ≤ cap') (h2 : Two C C' σ τ Y) {a : Act}
    (hs : SR C ρ nt ds (mkT T x) a) (hat : At C n0 w0 k0 ρ0 cap S ρ w) {Q : Exit → Act → World → Prop} (hQ : ∀ ρ' a' w', SR C' ρ' nt ds (mkT T' x) a' → At C' n0 w0 k0 ρ0 cap' S' ρ' w' → Q .normal a' w') : cd.wp C.P Q a w := by
  unfold listB at h
  rw [ofPairs_eq, ofTs_eq, Tr.setK_eq] at h
  split at h
  · rename_i U' H' c' hcd
    simp only [Prod.mk.injEq] at h
    obtain ⟨hl, hx⟩ := h
    simp only [listF] at hcd
    split at hcd
    · rename_i U1 H1 c1 h1
      simp only [Option.some.injEq, Prod.mk.injEq] at hcd
      obtain ⟨rfl, rfl, rfl⟩ := hcd
      split at hl
      · rename_i hT
        have said := codeF_sound (ds := ds) hC hP.symm (fun _ => hcall) (drawn_ok hC hP.symm (by rw [hP]; exact mixed) nt) 4000 none cd _ _ cap _ h1
        refine Code.wp_mono (fun e a' w' ⟨he, ρ', k1, k2⟩ => ?_) (said.wp rfl ρ a w hs hat.wr hat.glob (fun b h1 _ => hat.free b h1))
        subst he
        exact hQ _ a' w' (k1.nextX h2 hT hx haf) (hat.next k2 h2 hl hcap)
      · cases hl
    · cases hcd
  · cases h
/-- A body's end: temporary 4 holds true. -/
def endB (memo : Option Blk) (nt : Nat) (cd : Code) (S : List (Nat × Blk)) (T : List (Nat × Value)) (cap : Nat) (x : Value) : Bool :=
  ofPairs S .e fun H => ofTs T .e fun U => U.setK 0 (some x) fun U => match codeF env nt (fun _ => callF env (hooksOf env memo) 100) 4000 none cd U H cap with
  | some (.ret, U', _, _) => match U'.get 4 with
    | some (.bool b) => b
    | _ => false
  | _ => false
theorem ending (hC : C.Good) (hP : C.P = Tryz.prog) (hcall : CallerSound C (callF env (hooksOf env memo) 100)) {x : Value} (h : endB memo nt cd S T cap x = true) {a : Act}
    (hs : SR C ρ nt ds (mkT T x) a) (hat : At C n0 w0 0 ρ0 cap S ρ w) {Q : Exit → Act → World → Prop} (hQ : ∀ ρ' U' a' w', U'.get 4 = some (.bool true) → SR C ρ' nt ds U' a' → At C n0 w0 0 ρ0 16 [] (restr ρ' 16) w' → Q .ret a' w') : cd.wp C.P Q a w := by
  unfold endB at h
  rw [ofPairs_eq, ofTs_eq, Tr.setK_eq] at h
  split at h
  · rename_i U' H' c' hcd
    split at h
    · rename_i b hb
      subst h
      have said := codeF_sound (ds := ds) hC hP.symm (fun _ => hcall) (drawn_ok hC hP.symm (by rw [hP]; exact mixed) nt) 4000 none cd _ _ cap _ hcd
      refine Code.wp_mono (fun e a' w' ⟨he, ρ', k1, k2⟩ => ?_) (said.wp rfl ρ a w hs hat.wr hat.glob (fun b h1 _ => hat.free b h1))
      subst he
      exact hQ ρ' U' a' w' hb k1 (hat.next k2 (two_id C) (S' := []) rfl ⟨Nat.le_refl _, Nat.zero_le _⟩)
    · cases h
  · cases h
end
/-- The law's readings. -/
noncomputable def cx (D : Value) (dr : Obj) (db : Nat) (x y : Int) : Cx := ⟨Tryz.prog, D, fun i => match i with | 0 => x | _ => y, dr, db⟩
section
variable {D : Value} {dr : Obj} {db : Nat} {x y : Int}
theorem cx_good (one : D.oneCell' = true) (nb : ∀ b, D ≠ .bool b) (h0 : 0 ≤ x) (h1 : x ≤ 1000) (h2 : 2 ≤ y) (h3 : y ≤ 1000) : (cx D dr db x y).Good := by
  refine ⟨fun i => ?_, one, nb⟩
  cases i with
  | zero => exact ⟨h0, h1⟩
  | succ i => exact ⟨h2, h3⟩
theorem cx_draws {u v : Int} (h : (cx D dr db u v).Draws) : (cx D dr db x y).Draws := ⟨h.row⟩
theorem two_kon (C : Cx) (hP : C.P = Tryz.prog) (hD : C.D = D) (hr : C.dr = dr) (hb : C.db = db) : Two C (cx D dr db x y) (konS x y) idS C.X := by
  refine ⟨hP.symm, hD.symm, hr.symm, hb.symm, fun i => ?_, fun i => by simp [idS, evF]⟩
  cases i <;> rfl
theorem two_on {x' y' : Int} (hx : x' = x + 1) (hy : y' = y - 1) : Two (cx D dr db x y) (cx D dr db x' y') onS idS (cx D dr db x y).X := by
  refine ⟨rfl, rfl, rfl, rfl, fun i => ?_, fun i => by simp [idS, evF]⟩
  cases i with
  | zero => exact hx
  | succ i => simp only [onS, evF, cx]; omega
theorem two_out {x' y' : Int} : Two (cx D dr db x y) (cx D dr db x' y') idS (konS x y) (cx D dr db x' y').X := by
  refine ⟨rfl, rfl, rfl, rfl, fun i => by simp [idS, evF], fun i => ?_⟩
  cases i <;> rfl
end
end
end Go.Proofs.YtgljampcnbgbhaaGreatDoor.Ev
