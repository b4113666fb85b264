/- The call of fcs.New, as it is known; whatever is called by the law. No conditions but those that each theorem names. -/
import Derived.Test.YtgljampcnbgbhaaGreatDoorFf
set_option linter.unusedVariables false
set_option linter.unusedSimpArgs false
namespace Go.Proofs.YtgljampcnbgbhaaGreatDoor.Ev
open Go Go.RowKit
theorem eqT_eq : ∀ (a b : Tr Value), eqT a b = true → a = b
  | .e, .e, _ => rfl
  | .e, .n _ _ _, h => by simp [eqT] at h
  | .n _ _ _, .e, h => by simp [eqT] at h
  | .n v l r, .n u m s, h => by
    simp only [eqT] at h
    split at h
    · rename_i h1
      split at h
      · rename_i h2
        rw [eqO_eq (eqV_eq 20) _ _ h1, eqT_eq l m h2, eqT_eq r s h]
      · cases h
    · cases h
theorem eqBk_eq {a b : Blk} (h : eqBk a b = true) : a = b := by
  unfold eqBk at h
  split at h
  · simp only [Bool.and_eq_true, beq_iff_eq, beq_iff] at h
    obtain ⟨h1, h2, h3, h4⟩ := h
    rw [h1, h2, eqO_eq (fun x y h => (beq_iff x y).1 h) _ _ h3, eqT_eq _ _ h4]
  · cases h
def afT : Tr Value → Bool
  | .e => true
  | .n v l r => match (match v with
      | none => true
      | some x => af 5 x) with
    | true => match afT l with
      | true => afT r
      | false => false
    | false => false
theorem afT_get : ∀ (t : Tr Value), afT t = true → ∀ p v, t.getP p = some v → af 5 v = true
  | .e, _, p, v, h => by cases p <;> simp [Tr.getP] at h
  | .n x l r, h, p, v, hp => by
    simp only [afT] at h
    split at h
    · rename_i hx
      split at h
      · rename_i hl
        cases p with
        | nil => simp only [Tr.getP] at hp; subst hp; exact hx
        | cons b p =>
          simp only [Tr.getP] at hp
          cases b with
          | true => exact afT_get r h p v hp
          | false => exact afT_get l hl p v hp
      · cases h
    · cases h
theorem memo_af : afT memoT = true := by kernel_rfl
theorem memo_sound {C : Cx} (hC : C.Good) (hP : C.P = Tryz.prog) : ∀ b, some memo32 = some b → ∀ (call : Caller) (args : List Value) (H : Heap) (c : Nat) (out : Out), hookB b call args H c = some out → CallSound C 32 args H c out := by
  intro b hb call args H c out h
  cases hb
  have hr := run32_ok
  unfold isMemo at hr
  split at hr
  · rename_i G hrun
    split at hr
    · rename_i k hk
      have hk2 := eqBk_eq hr
      subst hk2
      have henter : ∃ cd, Tryz.f32.body = some cd ∧ enterF env (fun _ _ _ _ _ => none) Tryz.f32 cd [] .e 100 = some (.pointer (some ⟨100, 0, none⟩), G, 101) := by
        unfold run32 at hrun
        split at hrun
        · rename_i cd hcd; exact ⟨cd, hcd, hrun⟩
        · cases hrun
      obtain ⟨cd, hcd, he⟩ := henter
      have hcs := (enterF_sound hC hP.symm (callN := fun _ _ _ _ _ => none) (fun _ _ _ _ _ _ h => by cases h) (fun nt => drawn_ok hC hP.symm (by rw [hP]; exact mixed) nt) (by rw [hP]; exact Tryz.func32) (by kernel_rfl) hcd he).2
      exact soundB (fun o v hv => afT_get _ memo_af _ v ((Tr.get_eq _ _).symm.trans hv)) hk hcs h
    · cases hr
  · cases hr
/-- Whatever is called. -/
theorem called {C : Cx} (hC : C.Good) (hP : C.P = Tryz.prog) (hd : C.Draws) : CallerSound C (callF env (hooksOf env (some memo32)) 100) := sound hC hP hd (memo_sound hC hP) 100
end Go.Proofs.YtgljampcnbgbhaaGreatDoor.Ev
