/- What is known, held against what is written down: what it says. No conditions but those that each theorem names. -/
import Derived.Test.YtgljampcnbgbhaaGreatDoorEs
import Derived.Test.YtgljampcnbgbhaaGreatDoorFg
set_option linter.unusedVariables false
set_option linter.unusedSimpArgs false
namespace Go.Proofs.YtgljampcnbgbhaaGreatDoor.Ev
open Go Go.RowKit
noncomputable section

def evF (Y : Nat → Int) : Form → Int
  | (none, d) => d
  | (some i, d) => Y i + d
def restr (ρ : Ren) (cap : Nat) : Ren := fun b => if b < cap then ρ b else none
/-- Two readings of what is not known. -/
structure Two (C C' : Cx) (σ τ : Sig) (Y : Nat → Int) : Prop where
  P : C'.P = C.P
  D : C'.D = C.D
  dr : C'.dr = C.dr
  db : C'.db = C.db
  l : ∀ i, C'.X i = evF Y (σ i)
  r : ∀ i, C.X i = evF Y (τ i)
section
variable {C C' : Cx} {σ τ : Sig} {Y : Nat → Int} {ρ : Ren} {cap : Nat}
theorem formV_r (h : Two C C' σ τ Y) {u v' : Value} {a : Form} (hf : formV τ u = some a) (hv : VR C ρ u v') : v' = .int .i64 (evF Y a) := by
  unfold formV at hf
  split at hf
  · cases hf; cases hv; rfl
  · rename_i k
    split at hf
    · rename_i i d hk
      have h1 : v' = .int .i64 (C.X i + d) := by
        generalize hu : Value.chan (some k) = w at hv
        cases hv <;> cases hu
        case tok0 => simp [symDec] at hk
        case tok1 => simp [symDec] at hk
        case tok2 => simp [symDec] at hk
        case sym hs => rw [hk] at hs; cases hs; rfl
      rw [h1, h.r i]
      split at hf
      rename_i b e hse
      cases hf
      rw [hse]
      cases b with
      | none => rfl
      | some j => simp only [evF]; rw [Int.add_assoc]
    · cases hf
  · cases hf
theorem formV_l (h : Two C C' σ τ Y) {v : Value} {a : Form} (hf : formV σ v = some a) : VR C' ρ v (.int .i64 (evF Y a)) := by
  unfold formV at hf
  split at hf
  · cases hf; exact .int _ _
  · rename_i k
    split at hf
    · rename_i i d hk
      have h1 : VR C' ρ (.chan (some k)) (.int .i64 (C'.X i + d)) := .sym hk
      rw [h.l i] at h1
      split at hf
      rename_i b e hse
      cases hf
      rw [hse] at h1
      cases b with
      | none => exact h1
      | some j => simp only [evF] at h1 ⊢; rw [← Int.add_assoc]; exact h1
    · cases hf
  · cases hf
theorem eqForm_eq {a b : Form} (h : eqForm a b = true) : a = b := by
  obtain ⟨a, d⟩ := a
  obtain ⟨b, e⟩ := b
  simp only [eqForm] at h
  split at h
  · rename_i hab
    have := eqO_eq (fun x y h => (beq_iff x y).1 h) _ _ hab
    simp at h
    rw [this, h]
  · cases h
theorem forms (h : Two C C' σ τ Y) {u v v' : Value} (hf : (match formV σ v, formV τ u with | some a, some b => eqForm a b | _, _ => false) = true) (hv : VR C ρ u v') {ρ' : Ren} : VR C' ρ' v v' := by
  split at hf
  · rename_i a b ha hb
    have := eqForm_eq hf
    subst this
    rw [formV_r h hb hv]
    exact formV_l h ha
  · cases hf
theorem restr_some {b : Nat} {pl : Pl} (h : ρ b = some pl) (hb : b < cap) : restr ρ cap b = some pl := by
  unfold restr; rw [if_pos hb]; exact h
theorem eqL_VRs {f : Value → Value → Bool} {C' : Cx} {ρ' : Ren} : ∀ {l m m' : List Value}, eqL f l m = true → VRs C ρ m m' → (∀ x y y', f x y = true → VR C ρ y y' → VR C' ρ' x y') → VRs C' ρ' l m'
  | [], [], _, _, .nil, _ => .nil
  | [], _ :: _, _, h, _, _ => by simp [eqL] at h
  | _ :: _, [], _, h, _, _ => by simp [eqL] at h
  | x :: l, y :: m, _, h, .cons r t, hf => by
    simp only [eqL] at h
    split at h
    · rename_i hx
      exact .cons (hf _ _ _ hx r) (eqL_VRs h t hf)
    · cases h
theorem leV_sound (h2 : Two C C' σ τ Y) : ∀ (f : Nat) {v u v' : Value}, leV σ τ cap f v u = true → VR C ρ u v' → VR C' (restr ρ cap) v v'
  | 0, _, _, _, h, _ => by simp [leV] at h
  | f + 1, v, u, v', h, hv => by
    unfold leV at h
    split at h
    · cases hv; simp at h; rw [h]; exact .bool _
    · cases hv
      split at h
      · rename_i hjk
        simp at hjk h; rw [hjk, h]; exact .int _ _
      · cases h
    · cases hv; simp only [Bool.and_eq_true, decide_eq_true_eq, beq_iff] at h; rw [h.1, h.2]; exact .float _ _
    · cases hv; simp only [Bool.and_eq_true, decide_eq_true_eq, beq_iff] at h; rw [h.1, h.2.1, h.2.2]; exact .complex _ _ _
    · cases hv; rw [eqS_eq _ _ h]; exact .string _
    · cases hv; exact .ptrNil
    · simp only [Bool.and_eq_true, blt_iff] at h
      have := eqA_eq _ _ h.1
      subst this
      cases hv with
      | ptr hp => exact .ptr (restr_some hp h.2)
    · simp only [Bool.and_eq_true, beq_iff] at h
      rw [h.1, h.2]
      cases hv with
      | slNil l c hl => exact .slNil _ _ hl
    · simp only [Bool.and_eq_true, beq_iff, blt_iff] at h
      have := eqA_eq _ _ h.1
      subst this
      rw [h.2.2.1, h.2.2.2]
      cases hv with
      | sl l c hp hl hc => exact .sl _ _ (restr_some hp h.2.1) hl hc
      | slU l c hp hl hc => exact .slU _ _ (restr_some hp h.2.1) hl hc
      | slE a c hp hc => exact .slE _ _ (restr_some hp h.2.1) hc
    · cases hv; exact .mapNil
    · simp only [Bool.and_eq_true, beq_iff, blt_iff] at h
      rw [h.1]
      cases hv with
      | map hp => exact .map (restr_some hp (h.1 ▸ h.2))
    · simp only [Bool.and_eq_true, beq_iff] at h
      rw [h.1]
      cases hv with
      | func g r1 r2 => exact .func _ (eqL_VRs h.2.1 r1 fun x y y' hx hy => leV_sound h2 f hx hy) (eqL_VRs h.2.2 r2 fun x y y' hx hy => leV_sound h2 f hx hy)
    · cases hv; exact .nilFunc
    · simp only [Bool.and_eq_true, beq_iff] at h
      rw [h.1]
      cases hv with
      | iface t r => exact .iface _ (leV_sound h2 f h.2 r)
    · cases hv; exact .nilIface
    · cases hv with
      | agg r => exact .agg (eqL_VRs h r fun x y y' hx hy => leV_sound h2 f hx hy)
    · cases hv with
      | tuple r => exact .tuple (eqL_VRs h r fun x y y' hx hy => leV_sound h2 f hx hy)
    · rename_i k j
      split at h
      · rename_i hk
        have hk := (blt_iff _ _).1 hk
        have h := (beq_iff _ _).1 h
        subst h
        cases hv with
        | tok0 => rw [← h2.D]; exact .tok0
        | tok1 n a b => exact .tok1 n a b
        | tok2 n a => exact .tok2 n a
        | sym hs =>
          unfold symDec at hs
          split at hs
          · rename_i hb; have := (ble_iff _ _).1 hb; omega
          · cases hs
      · exact forms h2 h hv
    · exact forms h2 h hv
theorem leT_sound (h2 : Two C C' σ τ Y) : ∀ {t t' : Tr Value}, leT σ τ cap t t' = true → ∀ p v, t.getP p = some v → ∃ u, t'.getP p = some u ∧ leV σ τ cap 20 v u = true
  | .e, _, _, p, v, h => by cases p <;> simp [Tr.getP] at h
  | .n x l r, .e, h, p, v, hp => by
    simp only [leT] at h
    split at h
    · split at h
      · rename_i hl
        cases p with
        | nil => simp [Tr.getP] at hp
        | cons b p =>
          simp only [Tr.getP] at hp
          cases b with
          | true =>
            obtain ⟨u, hu, _⟩ := leT_sound h2 h p v hp
            cases p <;> simp [Tr.getP] at hu
          | false =>
            obtain ⟨u, hu, _⟩ := leT_sound h2 hl p v hp
            cases p <;> simp [Tr.getP] at hu
      · cases h
    · cases h
  | .n x l r, .n y l' r', h, p, v, hp => by
    simp only [leT] at h
    split at h
    · rename_i hx
      split at h
      · rename_i hl
        cases p with
        | nil =>
          simp only [Tr.getP] at hp ⊢
          subst hp
          cases y with
          | none => simp at hx
          | some y => exact ⟨y, rfl, hx⟩
        | cons b p =>
          simp only [Tr.getP] at hp ⊢
          cases b with
          | true => exact leT_sound h2 h p v hp
          | false => exact leT_sound h2 hl p v hp
      · cases h
    · cases h
theorem leE_sound (h2 : Two C C' σ τ Y) : ∀ {l m m' : List MapEntry}, leE σ τ cap l m = true → ERs C ρ m m' → ERs C' (restr ρ cap) l m'
  | [], [], _, _, .nil => .nil
  | [], _ :: _, _, h, _ => by simp [leE] at h
  | _ :: _, [], _, h, _ => by simp [leE] at h
  | e :: l, e' :: m, _, h, .cons k v b t => by
    simp only [leE] at h
    split at h
    · rename_i he
      simp only [Bool.and_eq_true, beq_iff] at he
      exact .cons (leV_sound h2 20 he.1 k) (leV_sound h2 20 he.2.1 v) (b.trans he.2.2.symm) (leE_sound h2 h t)
    · cases h
theorem leB_sound (h2 : Two C C' σ τ Y) {w : World} {b : Nat} {k k' : Blk} (hb : b < cap) (h : leB σ τ cap k k' = true) (hB : BR C ρ w b k') : BR C' (restr ρ cap) w b k := by
  unfold leB at h
  split at h
  · rename_i ro el n t ro' el' n' t'
    simp only [Bool.and_eq_true, beq_iff] at h
    obtain ⟨_, he, hn, ht⟩ := h
    have hn := eqO_eq (fun x y h => (beq_iff x y).1 h) _ _ hn
    subst he hn
    obtain ⟨pl, cs, fz, g1, g2, g3, g4, g5, g6⟩ := hB
    refine ⟨pl, cs, fz, restr_some g1 hb, g2, g3, fun o v hv => ?_, g5, ?_⟩
    · obtain ⟨u, q1, q2⟩ := leT_sound h2 ht _ v ((Tr.get_eq _ _).symm.trans hv)
      obtain ⟨v', q3, q4⟩ := g4 o u ((Tr.get_eq _ _).trans q1)
      exact ⟨v', q3, leV_sound h2 20 q2 q4⟩
    · cases n with
      | some m => exact g6
      | none =>
        refine ⟨g6.1, by rw [h2.P]; exact g6.2.1, fun o v hv => ?_⟩
        obtain ⟨u, q1, q2⟩ := leT_sound h2 ht _ v ((Tr.get_eq _ _).symm.trans hv)
        exact g6.2.2 o u ((Tr.get_eq _ _).trans q1)
  · simp only [Bool.and_eq_true, beq_iff] at h
    obtain ⟨pl, es, g1, g2, g3⟩ := hB
    rw [h.2]
    exact ⟨pl, es, restr_some g1 hb, g2, leE_sound h2 h.1 g3⟩
  · obtain ⟨pl, g1, g2, g3⟩ := hB
    exact ⟨pl, restr_some g1 hb, by rw [h2.db]; exact g2, by rw [h2.dr]; exact g3⟩
  · cases h
def buildP : List (Nat × Blk) → Heap → Heap
  | [], t => t
  | (k, x) :: l, t => buildP l (t.set k (some x))
theorem ofPairs_eq {R : Type} : ∀ (l : List (Nat × Blk)) (t : Heap) (K : Heap → R), ofPairs l t K = K (buildP l t)
  | [], _, _ => rfl
  | (k, x) :: l, t, K => by simp only [ofPairs, Tr.setK_eq]; exact ofPairs_eq l _ K
theorem get_buildP : ∀ (l : List (Nat × Blk)) (t : Heap) (k : Nat) (x : Blk), (buildP l t).get k = some x → (k, x) ∈ l ∨ t.get k = some x
  | [], _, _, _, h => .inr h
  | (j, y) :: l, t, k, x, h => by
    rcases get_buildP l _ k x h with g | g
    · exact .inl (by simp [g])
    · rw [Tr.get_set] at g
      split at g
      · rename_i e
        simp only [Option.some.injEq] at g
        rw [e, ← g]; exact .inl (by simp)
      · exact .inr g
theorem leH_mem {H : Heap} : ∀ {l : List (Nat × Blk)}, leH σ τ cap H l = true → ∀ b k, (b, k) ∈ l → b < cap ∧ ∃ k', H.get b = some k' ∧ leB σ τ cap k k' = true
  | [], _, b, k, hm => by cases hm
  | (b', k') :: l, h, b, k, hm => by
    simp only [leH] at h
    split at h
    · rename_i k2 hk2 hb
      split at h
      · rename_i hle
        rcases List.mem_cons.1 hm with e | hm
        · cases e; exact ⟨(blt_iff _ _).1 hb, k2, hk2, hle⟩
        · exact leH_mem h b k hm
      · cases h
    · cases h
theorem leB_ro {k k' : Blk} (h : leB σ τ cap k k' = true) : roB k = roB k' := by
  unfold leB at h
  split at h
  · simp only [Bool.and_eq_true, beq_iff_eq] at h; exact h.1
  · rfl
  · rfl
  · cases h
/-- From what is known to what is written down. -/
theorem leH_sound (h2 : Two C C' σ τ Y) {w : World} {H : Heap} {l : List (Nat × Blk)} (h : leH σ τ cap H l = true) (hW : WR C ρ H.get w) :
    WR C' (restr ρ cap) (buildP l .e).get w ∧ ∀ i, Own (restr ρ cap) (buildP l .e).get i → Own ρ H.get i := by
  have mem : ∀ b k, (buildP l .e).get b = some k → b < cap ∧ ∃ k', H.get b = some k' ∧ leB σ τ cap k k' = true := fun b k hb => by
    rcases get_buildP l .e b k hb with hm | hm
    · exact leH_mem h b k hm
    · rw [Tr.get_e] at hm; cases hm
  have un : ∀ {b pl}, restr ρ cap b = some pl → ρ b = some pl := fun {b pl} hb => by
    unfold restr at hb
    split at hb
    · exact hb
    · cases hb
  refine ⟨⟨fun b k hb => ?_, fun b b' k k' pl pl' hb hb' hor hp hp' e => ?_⟩, fun i ⟨b, k, pl, h1, h3, h4, h5⟩ => ?_⟩
  · obtain ⟨q1, k', q2, q3⟩ := mem b k hb
    exact leB_sound h2 q1 q3 (hW.br b k' q2)
  · obtain ⟨_, x, q2, q3⟩ := mem b k hb
    obtain ⟨_, x', q2', q3'⟩ := mem b' k' hb'
    rw [leB_ro q3, leB_ro q3'] at hor
    exact hW.inj b b' x x' pl pl' q2 q2' hor (un hp) (un hp') e
  · obtain ⟨_, k', q2, q3⟩ := mem b k h1
    exact ⟨b, k', pl, q2, by rw [← leB_ro q3]; exact h3, un h4, h5⟩
theorem leTs_mem {T : Tr Value} : ∀ {l : List (Nat × Value)}, leTs σ τ cap T l = true → ∀ t v, (t, v) ∈ l → ∃ u, T.get t = some u ∧ leV σ τ cap 20 v u = true
  | [], _, b, k, hm => by cases hm
  | (t', v') :: l, h, t, v, hm => by
    simp only [leTs] at h
    split at h
    · rename_i u hu
      split at h
      · rename_i hle
        rcases List.mem_cons.1 hm with e | hm
        · cases e; exact ⟨u, hu, hle⟩
        · exact leTs_mem h t v hm
      · cases h
    · cases h
end
end
end Go.Proofs.YtgljampcnbgbhaaGreatDoor.Ev
