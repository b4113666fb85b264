/- The evaluator: slices, look-ups, new blocks, blocks turned. No conditions but those that each theorem names. -/
import Derived.Test.YtgljampcnbgbhaaGreatDoorEa
import Derived.Laws.LoneSync
import Derived.Laws.BytesString
import Derived.Lib.Builder
import Derived.Lib.UnsafeStr
import Derived.Lib.ConvBytes
import Derived.Deep.Upon
set_option linter.unusedVariables false
set_option linter.unusedSimpArgs false
namespace Go.Proofs.YtgljampcnbgbhaaGreatDoor.Ev
open Go Go.RowKit
noncomputable section

section
variable {C : Cx} {ρ : Ren} {H : Heap} {w : World}
theorem build_struct (hD : C.D.oneCell' = true) {t : TypeId} {fs : Array Field} {z : Value} {vs : List (Nat × Value)} {vs' : Array (Nat × Value)} {cs : List Value}
    (hu : C.P.underlying t = some (.struct fs)) (hz : zeroB C.P t = some z) (ha : (fs.toList.all fun f => (C.P.info? f.type).isSome) = true)
    (hf : fillB (fun i => match nth fs.toList i with
        | some f => some (f.offset, sizeB C.P f.type)
        | none => none) vs (cellsV z) = some cs) (hp : PVs C ρ vs vs'.toList) :
    ∃ cs', (Instr.build t vs').run C.P w = .ok (.agg cs') w ∧ VRs C ρ cs cs'.toList := by
  obtain ⟨cs', h1, h2⟩ := fillB_sound (place' := ((fs.toList.map fun f => (f.offset, sizeB C.P f.type)).toArray[·]?)) hD (fun i x hx => by
    rw [nth_eq] at hx
    split at hx
    · rename_i f hfi; cases hx; simp [hfi]
    · cases hx) hp (zero_self hz) hf
  refine ⟨cs', ?_, h2⟩
  have hm : (fs.mapM fun f => do pure (f.offset, ← sizeOf f.type) : Sem (Array (Nat × Nat))).run C.P w = .ok (fs.toList.map fun f => (f.offset, sizeB C.P f.type)).toArray w := by
    rw [Array.mapM_eq_mapM_toList, Sem.run_map, run_mapM_places _ ha]; rfl
  unfold Instr.build
  simp only [Sem.run_bind, run_zeroB hz, Result.andThen_ok, run_under hu, hm, h1, Sem.run_pure]
theorem build_array (hD : C.D.oneCell' = true) {t : TypeId} {n : Nat} {e : TypeId} {sz : Nat} {z : Value} {vs : List (Nat × Value)} {vs' : Array (Nat × Value)} {cs : List Value}
    (hu : C.P.underlying t = some (.array n e)) (hz : zeroB C.P t = some z) (hs : szB C.P e = some sz)
    (hf : fillB (fun i => some (i * sz, sz)) vs (cellsV z) = some cs) (hp : PVs C ρ vs vs'.toList) :
    ∃ cs', (Instr.build t vs').run C.P w = .ok (.agg cs') w ∧ VRs C ρ cs cs'.toList := by
  obtain ⟨i, hi, his, _⟩ := szB_some hs
  obtain ⟨cs', h1, h2⟩ := fillB_sound (place' := fun i => some (i * sz, sz)) hD (fun i x hx => hx) hp (zero_self hz) hf
  refine ⟨cs', ?_, h2⟩
  unfold Instr.build
  simp only [Sem.run_bind, run_zeroB hz, Result.andThen_ok, run_under hu, run_size hi, his, h1, Sem.run_pure]

/-! Bounds. -/
theorem bound_some {v : Value} {y n : Nat} (h : bound v y = some n) : ∃ k, v = .int k (.ofNat n) ∧ n ≤ y := by
  unfold bound at h
  split at h
  · rename_i k n'
    split at h
    · rename_i hb; simp at h; subst h; exact ⟨k, rfl, (ble_iff _ _).1 hb⟩
    · cases h
  · cases h
theorem run_bnd {v v' : Value} {y y' n : Nat} (h : bound v y = some n) (hv : VR C ρ v v') (hy : y ≤ y') (code : BoundsCode) : (Instr.sliceBound v' y' code).run C.P w = .ok n w := by
  obtain ⟨k, rfl, hn⟩ := bound_some h
  obtain rfl := hv.int_inv
  rw [run_sliceBound w k _ y' code (by exact Int.natCast_nonneg n) (by exact Int.ofNat_le.2 (Nat.le_trans hn hy))]
  rfl
/-- An operand that need not be there. -/
inductive VO (C : Cx) (ρ : Ren) : Option Value → Option Value → Prop
  | none : VO C ρ none none
  | some {v v' : Value} (h : VR C ρ v v') : VO C ρ (some v) (some v')
theorem run_low {v v' : Option Value} {h l : Nat} (hb : boundO v 0 h = some l) (hv : VO C ρ v v') (code : BoundsCode) :
    ((match v' with
      | some v => Instr.sliceBound v h code
      | none => pure 0 : Sem Nat)).run C.P w = .ok l w ∧ l ≤ h := by
  cases hv with
  | none => simp [boundO] at hb; subst hb; exact ⟨rfl, Nat.zero_le _⟩
  | some hv =>
    simp only [boundO] at hb
    exact ⟨run_bnd hb hv (Nat.le_refl _) _, (bound_some hb).choose_spec.2⟩
/-- No upper one of the capacity: the bounds. -/
theorem run_bounds {lo lo' hi hi' : Option Value} {isSlice : Bool} {len cap y h l : Nat} (hh : boundO hi len y = some h) (hl : boundO lo 0 h = some l) (hhi : VO C ρ hi hi') (hlo : VO C ρ lo lo')
    (hy : y ≤ cap) : (Instr.sliceBounds isSlice len cap lo' hi' none).run C.P w = .ok (l, h, cap) w ∧ l ≤ h ∧ (hi = none ∧ h = len ∨ h ≤ y) := by
  have hlow := (run_low (w := w) hl hlo .sliceB).2
  cases hhi with
  | none =>
    simp [boundO] at hh; subst hh
    cases hlo with
    | none => simp [boundO] at hl; subst hl; exact ⟨rfl, hlow, .inl ⟨rfl, rfl⟩⟩
    | some r => simp only [boundO] at hl; exact ⟨by simp [Instr.sliceBounds, run_bnd hl r (Nat.le_refl _)], hlow, .inl ⟨rfl, rfl⟩⟩
  | some rh =>
    simp only [boundO] at hh
    have hle := (bound_some hh).choose_spec.2
    cases hlo with
    | none => simp [boundO] at hl; subst hl; exact ⟨by simp [Instr.sliceBounds, run_bnd hh rh hy], hlow, .inr hle⟩
    | some r => simp only [boundO] at hl; exact ⟨by simp [Instr.sliceBounds, run_bnd hh rh hy, run_bnd hl r (Nat.le_refl _)], hlow, .inr hle⟩
theorem run_bounds3 {lo lo' : Option Value} {mv mv' hv hv' : Value} {isSlice : Bool} {len cap y m h l : Nat} (hm : bound mv y = some m) (hh : bound hv m = some h) (hl : boundO lo 0 h = some l)
    (rm : VR C ρ mv mv') (rh : VR C ρ hv hv') (hlo : VO C ρ lo lo') (hy : y ≤ cap) :
    (Instr.sliceBounds isSlice len cap lo' (some hv') (some mv')).run C.P w = .ok (l, h, m) w ∧ l ≤ h ∧ h ≤ m ∧ m ≤ y := by
  have hlow := (run_low (w := w) hl hlo .sliceB).2
  refine ⟨?_, hlow, (bound_some hh).choose_spec.2, (bound_some hm).choose_spec.2⟩
  cases hlo with
  | none => simp [boundO] at hl; subst hl; simp [Instr.sliceBounds, run_bnd hm rm hy, run_bnd hh rh (Nat.le_refl _)]
  | some r => simp only [boundO] at hl; simp [Instr.sliceBounds, run_bnd hm rm hy, run_bnd hh rh (Nat.le_refl _), run_bnd hl r (Nat.le_refl _)]
theorem run_sliceAt_slice' {t e : TypeId} {i : TypeInfo} {a : Option Addr} {len cap l h m : Nat} {lo hi mx : Option Value} (hu : C.P.underlying t = some (.slice e)) (hi' : C.P.info? e = some i)
    (hb : (Instr.sliceBounds true len cap lo hi mx).run C.P w = .ok (l, h, m) w) :
    (Instr.sliceAt t (.slice a len cap) lo hi mx).run C.P w = .ok (.slice (if m = l then a else a.map (·.add (l * i.size))) (h - l) (m - l)) w := by
  unfold Instr.sliceAt Instr.slice
  simp only [Sem.run_bind, run_under hu, Result.andThen_ok, hb, run_size hi', Sem.run_pure]
theorem step_eq {sz : Nat} {a : Addr} {l n m : Nat} : stepA sz a l n m = some (.slice (some ⟨a.block, a.off + l * sz, none⟩) n m) := by simp [stepA]
theorem boundU_sound (hW : WR C ρ H.get w) {sz : Nat} {a : Addr} {len c' h : Nat} {pl : Pl} {hi hi' : Option Value} (hb : boundU H sz a len hi = some h) (hhi : VO C ρ hi hi') (hp : ρ a.block = some pl)
    (hz : pl.sz = sz) (hl : len ≤ c') (hc : a.off + c' * pl.sz = pl.fin) : boundO hi len c' = some h ∧ h ≤ c' := by
  cases hhi with
  | none => simp [boundU] at hb; subst hb; exact ⟨rfl, hl⟩
  | some r =>
    simp only [boundU] at hb
    split at hb
    · rename_i k h'
      have fin : ∀ g, g ≤ c' → boundO (some (Value.int k (.ofNat g))) len c' = some g := fun g hg => by
        simp [boundO, bound, (ble_iff _ _).2 hg]
      split at hb
      · rename_i hle
        simp at hb; subst hb
        have := (ble_iff _ _).1 hle
        exact ⟨fin _ (by omega), by omega⟩
      · split at hb
        · rename_i ro el t hblk
          split at hb
          · rename_i u hu
            simp at hb; subst hb
            obtain ⟨q, c, fz, g1, g2, g3, g4, g5, g6, g7, g8⟩ := hW.br _ _ (blkOf_some hblk)
            rw [hp] at g1; cases g1
            have hlt := g8 _ _ hu
            subst hz
            have : h' ≤ c' := by
              rcases Nat.lt_or_ge c' h' with hgt | hle
              · exfalso
                have h1 : (c' + 1) * pl.sz ≤ h' * pl.sz := Nat.mul_le_mul_right _ hgt
                rw [Nat.succ_mul] at h1
                omega
              · exact hle
            exact ⟨fin _ this, this⟩
          · cases hb
        · cases hb
    · cases hb
theorem capU_ne {a b : Nat} : capU a ≠ capE b := by unfold capU capE; omega
theorem capU_inj {a b : Nat} (h : capU a = capU b) : a = b := by unfold capU at h; omega
theorem capE_inj {a b : Nat} (h : capE a = capE b) : a = b := by unfold capE at h; omega
theorem capU_ge (a : Nat) : cap0 ≤ capU a := by unfold capU; omega
theorem capE_ge (a : Nat) : cap0 ≤ capE a := by unfold capE; omega
theorem sliceF_sound (hW : WR C ρ H.get w) {t : TypeId} {x x' v : Value} {lo lo' hi hi' mx mx' : Option Value} (h : sliceF C.P H t x lo hi mx = some v)
    (hx : VR C ρ x x') (hlo : VO C ρ lo lo') (hhi : VO C ρ hi hi') (hmx : VO C ρ mx mx') : ∃ v', (Instr.sliceAt t x' lo' hi' mx').run C.P w = .ok v' w ∧ VR C ρ v v' := by
  unfold sliceF at h
  split at h
  · -- with an upper bound of the capacity
    rename_i mv
    split at h
    · rename_i e a len cap hv hu
      split at h
      · rename_i hsp
        simp only [bind, Option.bind_eq_some_iff] at h
        obtain ⟨sz, hsz, m, hm, h', hh, l, hl, h⟩ := h
        obtain ⟨i, hi, his, hpos, _⟩ := szB_some hsz
        obtain ⟨pl, _, hp, hx'⟩ := hx.slice_inv
        obtain ⟨ab, ao, as_⟩ := a
        simp only at hsp hp; subst hsp
        cases hmx with
        | some rm =>
        cases hhi with
        | some rh =>
        -- where the slice lies, and what its capacity is
        have place : (Nat.beq cap (capU sz) || Nat.blt cap cap0) = true → ∃ c', x' = .slice (some ⟨pl.blk, pl.sh + ao, none⟩) len c' ∧ (match Nat.ble cap0 cap with | true => len | false => cap) ≤ c' := fun hq => by
          rcases hx' with ⟨h1, h2, h3⟩ | ⟨h1, c', h2, h3, h4⟩ | ⟨h1, _⟩
          · refine ⟨cap, h3, ?_⟩
            rw [(ble_false _ _).2 h1]; exact Nat.le_refl _
          · refine ⟨c', h4, ?_⟩
            rw [(ble_iff _ _).2 (by rw [h1]; exact capU_ge _)]; exact h2
          · exfalso
            simp only [Bool.or_eq_true, beq_iff, blt_iff] at hq
            rcases hq with hq | hq
            · exact capU_ne (hq.symm.trans h1)
            · rw [h1] at hq; have := capE_ge pl.sz; omega
        split at h
        · cases h
        · rename_i hE hor
          split at h
          · rename_i hq
            simp only [Bool.and_eq_true] at hq
            obtain ⟨c', rfl, hyc⟩ := place hq.1
            have hmc := (blt_iff _ _).1 hq.2
            obtain ⟨hb, h1, h2, h3⟩ := run_bounds3 (isSlice := true) (len := len) (cap := c') (w := w) hm hh hl rm rh hlo hyc
            simp at h; subst h
            refine ⟨_, run_sliceAt_slice' hu hi hb, ?_⟩
            have : (if m = l then some (⟨pl.blk, pl.sh + ao, none⟩ : Addr) else (some (⟨pl.blk, pl.sh + ao, none⟩ : Addr)).map (·.add (l * i.size))) = some ⟨pl.blk, pl.sh + ao, none⟩ := by
              simp only [Bool.or_eq_true, beq_iff] at hor
              split
              · rfl
              · rcases hor with ho | ho
                · exact absurd ho (by assumption)
                · subst ho; simp [Addr.add]
            rw [this]
            exact .sl _ _ hp (by omega) (by omega)
          · cases h
        · rename_i hE hor
          split at h
          · rename_i hq
            simp only [Bool.and_eq_true] at hq
            obtain ⟨c', rfl, hyc⟩ := place hq.1
            have hmc := (blt_iff _ _).1 hq.2
            obtain ⟨hb, h1, h2, h3⟩ := run_bounds3 (isSlice := true) (len := len) (cap := c') (w := w) hm hh hl rm rh hlo hyc
            rw [step_eq] at h; cases h
            refine ⟨_, run_sliceAt_slice' hu hi hb, ?_⟩
            simp only [Bool.or_eq_false_iff, beq_false] at hor
            rw [if_neg hor.1, Option.map_some, addr_add, his, Nat.add_assoc]
            exact .sl _ _ hp (by omega) (by omega)
          · cases h
      · cases h
    · cases h
  · cases hmx
    split at h
    · -- a text
      rename_i bs hu
      simp only [bind, Option.bind_eq_some_iff, forceL_eq, takeL_eq, dropL_eq, lenL_eq] at h
      obtain ⟨h', hh, l, hl, h⟩ := h
      cases h
      obtain rfl := hx.string_inv
      obtain ⟨hb, h1, h2⟩ := run_bounds (isSlice := false) (len := bs.length) (cap := bs.length) (w := w) hh hl hhi hlo (Nat.le_refl _)
      refine ⟨.string ⟨⟨(bs.drop l).take (h' - l)⟩⟩, ?_, .string _⟩
      have hsz : (⟨⟨bs⟩⟩ : ByteArray).size = bs.length := rfl
      have he : (⟨⟨bs⟩⟩ : ByteArray).extract l h' = ⟨⟨(bs.drop l).take (h' - l)⟩⟩ := by apply ByteArray.ext; simp
      unfold Instr.sliceAt Instr.slice
      simp only [Sem.run_bind, run_under hu, Result.andThen_ok, hsz, hb, he, Option.isSome_none, Bool.false_eq_true, if_false, Sem.run_pure]
    · -- a slice
      rename_i e a len cap hu
      split at h
      · cases h
      · rename_i hsp
        simp only [bind, Option.bind_eq_some_iff] at h
        obtain ⟨sz, hsz, h⟩ := h
        obtain ⟨i, hi, his, hpos, _⟩ := szB_some hsz
        obtain ⟨pl, _, hp, hx'⟩ := hx.slice_inv
        obtain ⟨ab, ao, as_⟩ := a
        simp only at hsp hp; subst hsp
        cases hEb : Nat.beq cap (capE sz)
        case true =>
          -- empty, of unknown room
          have hE := (beq_iff _ _).1 hEb
          simp only [hEb, Option.bind_eq_some_iff] at h
          obtain ⟨h', hh, l, hl, h⟩ := h
          split at h
          · rename_i hz
            simp only [Bool.and_eq_true, beq_iff] at hz
            obtain ⟨rfl, rfl, rfl⟩ := hz
            cases h
            rcases hx' with ⟨h1, _⟩ | ⟨h1, _⟩ | ⟨h1, _, b, c', h2, rfl⟩
            · rw [hE] at h1; have := capE_ge sz; omega
            · rw [hE] at h1; exact (capU_ne h1.symm).elim
            · obtain ⟨hb, _⟩ := run_bounds (isSlice := true) (len := 0) (cap := c') (w := w) hh hl hhi hlo (Nat.zero_le _)
              refine ⟨_, run_sliceAt_slice' hu hi hb, ?_⟩
              have : (if c' = 0 then some b else (some b).map (·.add (0 * i.size))) = some b := by split <;> simp [Addr.add]
              rw [this]
              exact hx
          · cases h
        cases hUb : Nat.beq cap (capU sz)
        case true =>
          -- of unknown room
          have hU := (beq_iff _ _).1 hUb
          simp only [hEb, hUb, Option.bind_eq_some_iff] at h
          obtain ⟨h', hh, l, hl, h⟩ := h
          rcases hx' with ⟨h1, _⟩ | ⟨h1, c', h2, h3, rfl⟩ | ⟨h1, _⟩
          · rw [hU] at h1; have := capU_ge sz; omega
          · have hz : pl.sz = sz := capU_inj (h1.symm.trans hU)
            obtain ⟨hh', hc⟩ := boundU_sound hW hh hhi hp hz h2 h3
            obtain ⟨hb, hlh, _⟩ := run_bounds (isSlice := true) (len := len) (cap := c') (w := w) hh' hl hhi hlo (Nat.le_refl _)
            have hr := run_sliceAt_slice' (a := some ⟨pl.blk, pl.sh + ao, none⟩) hu hi hb
            split at h
            · rename_i hl0
              have hl0 := (beq_iff _ _).1 hl0
              subst hl0
              simp at h; subst h
              refine ⟨_, hr, ?_⟩
              have : (if c' = 0 then some (⟨pl.blk, pl.sh + ao, none⟩ : Addr) else (some (⟨pl.blk, pl.sh + ao, none⟩ : Addr)).map (·.add (0 * i.size))) = some ⟨pl.blk, pl.sh + ao, none⟩ := by split <;> simp [Addr.add]
              rw [this, h1]
              exact .slU _ _ hp (by omega) (by simpa using h3)
            · rename_i hl0
              have hl0 := (beq_false _ _).1 hl0
              have e1 : (c' - l) * pl.sz = c' * pl.sz - l * pl.sz := Nat.sub_mul _ _ _
              have e2 : l * pl.sz ≤ c' * pl.sz := Nat.mul_le_mul_right _ (by omega)
              split at h
              · rename_i hlast
                simp only [Bool.and_eq_true, beq_iff, ble_iff] at hlast
                rw [step_eq] at h; cases h
                refine ⟨_, hr, ?_⟩
                rw [← hz]
                obtain ⟨rfl, _⟩ := hlast
                rw [Nat.sub_self]
                by_cases hcl : c' = l
                · rw [if_pos hcl]
                  exact .slE _ _ hp (.inl (by omega))
                · rw [if_neg hcl, Option.map_some, addr_add, his, ← hz]
                  exact .slE _ _ hp (.inr ⟨by rw [Nat.add_assoc], by omega⟩)
              · rename_i hlast
                simp only [Bool.and_eq_false_iff, beq_false, ble_false] at hlast
                rw [step_eq] at h; cases h
                refine ⟨_, hr, ?_⟩
                rw [if_neg (by omega), Option.map_some, addr_add, his, ← hz, h1, Nat.add_assoc]
                exact .slU _ _ hp (by omega) (by omega)
          · rw [hU] at h1; exact (capU_ne h1).elim
        cases hcb : Nat.ble cap0 cap
        case true => simp [hEb, hUb, hcb] at h
        case false =>
          -- of known room
          have hc0 := (ble_false _ _).1 hcb
          simp only [hEb, hUb, hcb, Option.bind_eq_some_iff] at h
          obtain ⟨h', hh, l, hl, h⟩ := h
          rcases hx' with ⟨h1, h2, rfl⟩ | ⟨h1, _⟩ | ⟨h1, _⟩
          · obtain ⟨hb, hlh, hor⟩ := run_bounds (isSlice := true) (len := len) (cap := cap) (w := w) hh hl hhi hlo (Nat.le_refl _)
            have hr := run_sliceAt_slice' (a := some ⟨pl.blk, pl.sh + ao, none⟩) hu hi hb
            have hcap : h' ≤ cap := by rcases hor with ⟨_, rfl⟩ | ho <;> omega
            split at h
            · rename_i hq
              simp only [Bool.or_eq_true, beq_iff] at hq
              simp at h; subst h
              refine ⟨_, hr, ?_⟩
              have : (if cap = l then some (⟨pl.blk, pl.sh + ao, none⟩ : Addr) else (some (⟨pl.blk, pl.sh + ao, none⟩ : Addr)).map (·.add (l * i.size))) = some ⟨pl.blk, pl.sh + ao, none⟩ := by
                split
                · rfl
                · rcases hq with ho | ho
                  · exact absurd ho (by assumption)
                  · subst ho; simp [Addr.add]
              rw [this]
              exact .sl _ _ hp (by omega) (by omega)
            · rename_i hq
              simp only [Bool.or_eq_false_iff, beq_false] at hq
              rw [step_eq] at h; cases h
              refine ⟨_, hr, ?_⟩
              rw [if_neg hq.1, Option.map_some, addr_add, his, Nat.add_assoc]
              exact .sl _ _ hp (by omega) (by omega)
          · have := capU_ge pl.sz; omega
          · have := capE_ge pl.sz; omega
    · -- nil
      rename_i e len cap hu
      simp only [bind, Option.bind_eq_some_iff] at h
      obtain ⟨sz, hsz, h', hh, l, hl, h⟩ := h
      obtain ⟨i, hi, his, hpos, _⟩ := szB_some hsz
      obtain ⟨rfl, hle⟩ := hx.slNil_inv
      simp at h; subst h
      obtain ⟨hb, hlh, hor⟩ := run_bounds (isSlice := true) (len := len) (cap := cap) (w := w) hh hl hhi hlo (Nat.le_refl _)
      refine ⟨_, run_sliceAt_slice' hu hi hb, ?_⟩
      have : (if cap = l then (none : Option Addr) else (none : Option Addr).map (·.add (l * i.size))) = none := by split <;> rfl
      rw [this]
      exact .slNil _ _ (by rcases hor with ⟨_, rfl⟩ | ho <;> omega)
    · -- an array
      rename_i n e a hu
      split at h
      · cases h
      · rename_i hsp
        simp only [bind, Option.bind_eq_some_iff] at h
        obtain ⟨sz, hsz, h', hh, l, hl, h⟩ := h
        obtain ⟨i, hi, his, hpos, _⟩ := szB_some hsz
        obtain ⟨pl, _, hp, rfl⟩ := hx.ptr_inv
        obtain ⟨ab, ao, as_⟩ := a
        simp only at hsp hp; subst hsp
        obtain ⟨hb, hlh, hor⟩ := run_bounds (isSlice := false) (len := n) (cap := n) (w := w) hh hl hhi hlo (Nat.le_refl _)
        have hcap : h' ≤ n := by rcases hor with ⟨_, rfl⟩ | ho <;> omega
        have hr : (Instr.sliceAt t (.pointer (some ⟨pl.blk, pl.sh + ao, none⟩)) lo' hi' none).run C.P w = .ok (.slice (some (if n = l then ⟨pl.blk, pl.sh + ao, none⟩ else (⟨pl.blk, pl.sh + ao, none⟩ : Addr).add (l * i.size))) (h' - l) (n - l)) w := by
          unfold Instr.sliceAt
          simp only [Sem.run_bind, run_under hu, Result.andThen_ok, Instr.sureAddr, Sem.run_pure, hb, run_size hi]
        split at h
        · cases h
        · rename_i hn0
          have hn0 := (blt_iff _ _).1 hn0
          split at h
          · rename_i hq
            simp only [Bool.or_eq_true, beq_iff] at hq
            simp at h; subst h
            refine ⟨_, hr, ?_⟩
            have : (if n = l then (⟨pl.blk, pl.sh + ao, none⟩ : Addr) else (⟨pl.blk, pl.sh + ao, none⟩ : Addr).add (l * i.size)) = ⟨pl.blk, pl.sh + ao, none⟩ := by
              split
              · rfl
              · rcases hq with ho | ho
                · exact absurd ho (by assumption)
                · subst ho; simp [Addr.add]
            rw [this]
            exact .sl _ _ hp (by omega) (by omega)
          · rename_i hq
            simp only [Bool.or_eq_false_iff, beq_false] at hq
            rw [step_eq] at h; cases h
            refine ⟨_, hr, ?_⟩
            rw [if_neg hq.1, addr_add, his, Nat.add_assoc]
            exact .sl _ _ hp (by omega) (by omega)
    · cases h
end
end
end Go.Proofs.YtgljampcnbgbhaaGreatDoor.Ev
namespace Go.Proofs.YtgljampcnbgbhaaGreatDoor.Ev
open Go Go.RowKit
noncomputable section

theorem pureRun_bind {α β : Type} (P : Program) (x : Sem α) (f : α → Sem β) : ∀ {r : β}, pureRun P (x >>= f) = some r → ∃ a, pureRun P x = some a ∧ pureRun P (f a) = some r := by
  induction x with
  | pure a => intro r h; exact ⟨a, rfl, h⟩
  | program k ih => intro r h; exact ih P h
  | mark m k ih => intro r h; exact ih h
  | _ => intro r h; cases h

section
variable {P : Program}
/-- The same place among entries with the same keys. -/
def SameIx (l' : List MapEntry) (i : Nat) (r r' : Option (Nat × Value)) : Prop :=
  (r = none ∧ r' = none) ∨ ∃ (j : Nat) (u : Value) (e : MapEntry), r = some (j, u) ∧ i ≤ j ∧ l'[j - i]? = some e ∧ r' = some (j, e.val)
theorem SameIx.step {e : MapEntry} {l' : List MapEntry} {i : Nat} {r r' : Option (Nat × Value)} (h : SameIx l' (i + 1) r r') : SameIx (e :: l') i r r' := by
  rcases h with h | ⟨j, u, e', h1, h2, h3, h4⟩
  · exact .inl h
  · exact .inr ⟨j, u, e', h1, by omega, by rw [show j - i = (j - (i + 1)) + 1 by omega]; simpa using h3, h4⟩
theorem findNow_same (d : TypeDesc) (k : Value) : ∀ (l l' : List MapEntry), l.map (·.key) = l'.map (·.key) → ∀ (i : Nat),
    (Instr.findNow d k l i = none → Instr.findNow d k l' i = none) ∧ (∀ r, Instr.findNow d k l i = some r → ∃ r', Instr.findNow d k l' i = some r' ∧ SameIx l' i r r')
  | [], [], _, i => ⟨fun h => h, fun r h => by simp [Instr.findNow] at h; subst h; exact ⟨none, rfl, .inl ⟨rfl, rfl⟩⟩⟩
  | [], _ :: _, h, _ => by simp at h
  | _ :: _, [], h, _ => by simp at h
  | e :: l, e' :: l', h, i => by
    simp only [List.map_cons, List.cons.injEq] at h
    obtain ⟨ih1, ih2⟩ := findNow_same d k l l' h.2 (i + 1)
    simp only [Instr.findNow, h.1]
    cases hs : Instr.sameNow d k e'.key with
    | none => exact ⟨(fun _ => rfl), (fun r hr => by cases hr)⟩
    | some b =>
      cases b with
      | true => exact ⟨(fun hr => by cases hr), (fun r hr => by cases hr; exact ⟨_, rfl, .inr ⟨i, _, e', rfl, Nat.le_refl _, by simp, rfl⟩⟩)⟩
      | false => exact ⟨ih1, fun r hr => let ⟨r', h1, h2⟩ := ih2 r hr; ⟨r', h1, h2.step⟩⟩
theorem findAsking_same (kt : TypeId) (k : Value) : ∀ (l l' : List MapEntry), l.map (·.key) = l'.map (·.key) → ∀ (i : Nat) (r : Option (Nat × Value)),
    pureRun P (Instr.findAsking kt k l i) = some r → ∃ r', (∀ w, (Instr.findAsking kt k l' i).run P w = .ok r' w) ∧ SameIx l' i r r'
  | [], [], _, i, r, h => by simp [Instr.findAsking, pureRun, pure] at h; subst h; exact ⟨none, fun _ => rfl, .inl ⟨rfl, rfl⟩⟩
  | [], _ :: _, h, _, _, _ => by simp at h
  | _ :: _, [], h, _, _, _ => by simp at h
  | e :: l, e' :: l', h, i, r, hr => by
    simp only [List.map_cons, List.cons.injEq] at h
    simp only [Instr.findAsking] at hr ⊢
    obtain ⟨b, hb, hr⟩ := pureRun_bind P _ _ hr
    rw [h.1] at hb
    have hq := fun w => pureRun_sound P _ _ hb w
    cases b with
    | true =>
      simp [pureRun, pure] at hr; subst hr
      exact ⟨some (i, e'.val), fun w => by simp [hq], .inr ⟨i, _, e', rfl, Nat.le_refl _, by simp, rfl⟩⟩
    | false =>
      obtain ⟨r', h1, h2⟩ := findAsking_same kt k l l' h.2 (i + 1) r (by simpa using hr)
      exact ⟨r', fun w => by simp [hq, h1], h2.step⟩
theorem findKey_same (kt : TypeId) (k : Value) {l l' : List MapEntry} (h : l.map (·.key) = l'.map (·.key)) {r : Option (Nat × Value)}
    (hr : pureRun P (Instr.findKey kt k l) = some r) : ∃ r', (∀ w, (Instr.findKey kt k l').run P w = .ok r' w) ∧ SameIx l' 0 r r' := by
  unfold Instr.findKey at hr ⊢
  obtain ⟨d, hd, hr⟩ := pureRun_bind P _ _ hr
  have hq := fun w => pureRun_sound P _ _ hd w
  obtain ⟨n1, n2⟩ := findNow_same d k l l' h 0
  cases hn : Instr.findNow d k l 0 with
  | some r0 =>
    simp [hn, pureRun, pure] at hr; subst hr
    obtain ⟨r', h1, h2⟩ := n2 _ hn
    exact ⟨r', fun w => by simp [hq, h1], h2⟩
  | none =>
    simp only [hn] at hr
    obtain ⟨r', h1, h2⟩ := findAsking_same kt k l l' h 0 r hr
    exact ⟨r', fun w => by simp [hq, n1 hn, h1], h2⟩
end

section
variable {C : Cx} {ρ : Ren} {H : Heap} {w : World}
theorem ERs.keys {es es' : List MapEntry} (h : ERs C ρ es es') (ha : (es.all fun e => af 5 e.key) = true) : es'.map (·.key) = es.map (·.key) := by
  induction h with
  | nil => rfl
  | cons k v b t ih =>
    simp only [List.all_cons, Bool.and_eq_true] at ha
    rw [List.map_cons, List.map_cons, VR_af 5 _ _ ha.1 k, ih ha.2]
theorem ERs.length {es es' : List MapEntry} (h : ERs C ρ es es') : es'.length = es.length := by
  induction h with
  | nil => rfl
  | cons k v b t ih => simp [ih]
theorem ERs.get {es es' : List MapEntry} (h : ERs C ρ es es') : ∀ {i : Nat} {e : MapEntry}, es[i]? = some e → ∃ e', es'[i]? = some e' ∧ VR C ρ e.key e'.key ∧ VR C ρ e.val e'.val ∧ e'.born = e.born := by
  induction h with
  | nil => intro i e he; simp at he
  | cons k v b t ih =>
    intro i e he
    cases i with
    | zero => simp at he; subst he; exact ⟨_, rfl, k, v, b⟩
    | succ i => simp at he; obtain ⟨e', h1, h2⟩ := ih he; exact ⟨e', by simpa using h1, h2⟩
theorem keyIx_sound {empty : Bool} {kt : TypeId} {k k' : Value} {es es' : List MapEntry} {r : Option (Nat × Value)} (h : keyIx C.P empty kt k es = some r) (hk : VR C ρ k k') (he : ERs C ρ es es') :
    k' = k ∧ es'.map (·.key) = es.map (·.key) ∧ (∀ w, (Instr.checkKey empty 10000 kt k).run C.P w = .ok () w) ∧ ∃ r', (∀ w, (Instr.findKey kt k es').run C.P w = .ok r' w) ∧
    ((r = none ∧ r' = none) ∨ ∃ (i : Nat) (u : Value) (e e' : MapEntry), r = some (i, u) ∧ es[i]? = some e ∧ es'[i]? = some e' ∧ r' = some (i, e'.val) ∧ VR C ρ e.val e'.val ∧ e'.key = e.key ∧ e'.born = e.born) := by
  unfold keyIx at h
  split at h
  · rename_i ha
    simp only [Bool.and_eq_true] at ha
    obtain ⟨_, h1, h2⟩ := pureRun_bind C.P _ _ h
    have hkeys := he.keys ha.2
    obtain ⟨r', h3, h4⟩ := findKey_same (P := C.P) kt k (l' := es') (by rw [hkeys, List.map_map]; rfl) h2
    refine ⟨VR_af 5 _ _ ha.1 hk, hkeys, fun w => pureRun_sound C.P _ _ h1 w, r', h3, ?_⟩
    rcases h4 with h4 | ⟨j, u, e', g1, _, g2, g3⟩
    · exact .inl h4
    · rw [Nat.sub_zero] at g2
      have hj : j < es.length := by rw [← he.length]; exact (List.getElem?_eq_some_iff.1 g2).1
      obtain ⟨e2, q1, q2, q3, q4⟩ := he.get (List.getElem?_eq_getElem hj)
      rw [g2] at q1; cases q1
      refine .inr ⟨j, u, es[j], e', g1, List.getElem?_eq_getElem hj, g2, g3, q3, ?_, q4⟩
      exact VR_af 5 _ _ (List.all_eq_true.1 ha.2 _ (List.getElem_mem hj)) q2
  · cases h
/-- What a map holds. -/
theorem mapOf_sound (hW : WR C ρ H.get w) {x x' : Value} {es : List MapEntry} (h : mapOf H x = some es) (hx : VR C ρ x x') :
    (x' = .map none ∧ es = []) ∨ ∃ (b : Nat) (es' : Array MapEntry) (cl : Nat), x' = .map (some b) ∧ w.heap[b]? = some (.map es' cl) ∧ ERs C ρ es es'.toList := by
  unfold mapOf at h
  split at h
  · cases h; cases hx; exact .inl ⟨rfl, rfl⟩
  · rename_i r
    split at h
    · rename_i es' cl hg
      cases h
      obtain ⟨pl, hp, rfl⟩ := hx.map_inv
      obtain ⟨q, e2, g1, g2, g3⟩ := hW.br _ _ hg
      rw [hp] at g1; cases g1
      exact .inr ⟨_, e2, cl, rfl, g2, g3⟩
    · cases h
  · cases h
theorem run_getObj {r : Nat} {o : Obj} (h : w.heap[r]? = some o) (hn : ∀ a b c, o ≠ .cells a b c) : (getObj r).run C.P w = .ok o w := by
  simp only [getObj, Sem.run, h]
theorem isEmpty_of_ERs {es : List MapEntry} {es' : Array MapEntry} (h : ERs C ρ es es'.toList) : es'.isEmpty = es.isEmpty := by
  have := h.length
  rw [Array.length_toList] at this
  cases es with
  | nil => simp at this ⊢; exact this
  | cons e l => simp at this ⊢; intro h0; rw [h0] at this; simp at this
theorem lookupF_sound (hW : WR C ρ H.get w) {t : TypeId} {x x' k k' v : Value} {ok : Bool} (h : lookupF C.P H t x k ok = some v) (hx : VR C ρ x x') (hk : VR C ρ k k') :
    ∃ v', (Instr.lookup t x' k' ok).run C.P w = .ok v' w ∧ VR C ρ v v' := by
  unfold lookupF at h
  split at h
  · rename_i kt el hu
    simp only [bind, Option.bind_eq_some_iff, isNilL_eq, nth_eq] at h
    obtain ⟨es, hes, r, hr, h⟩ := h
    have main : ∀ (es' : Array MapEntry), (x' = .map none ∧ es' = #[] ∨ ∃ (b cl : Nat), x' = .map (some b) ∧ w.heap[b]? = some (.map es' cl)) → ERs C ρ es es'.toList →
        ∃ v', (Instr.lookup t x' k' ok).run C.P w = .ok v' w ∧ VR C ρ v v' := fun es' hE hers => by
      obtain ⟨rfl, hkeys, hck, r', hf, hcase⟩ := keyIx_sound hr hk hers
      rw [isEmpty_of_ERs hers |>.symm] at hck
      -- the look's run, whatever is found
      have fin : ∀ (u : Value) (b : Bool), ((r' = none ∧ zeroB C.P el = some u ∧ b = false) ∨ (∃ i, r' = some (i, u) ∧ b = true)) →
          (Instr.lookup t x' k' ok).run C.P w = .ok (if ok then .tuple #[u, .bool b] else u) w := fun u b hm => by
        rcases hE with ⟨rfl, rfl⟩ | ⟨b', cl, rfl, hg⟩
        · unfold Instr.lookup
          rcases hm with ⟨rfl, hz, rfl⟩ | ⟨i, rfl, rfl⟩
          · simp only [Sem.run_bind, run_under hu, Result.andThen_ok, Sem.run_pure, hck, hf, run_zeroB hz]
          · simp only [Sem.run_bind, run_under hu, Result.andThen_ok, Sem.run_pure, hck, hf]
        · unfold Instr.lookup
          rcases hm with ⟨rfl, hz, rfl⟩ | ⟨i, rfl, rfl⟩
          · simp only [Sem.run_bind, run_under hu, Result.andThen_ok, Sem.run_pure, run_getObj (C := C) hg (by simp), hck, hf, run_zeroB hz]
          · simp only [Sem.run_bind, run_under hu, Result.andThen_ok, Sem.run_pure, run_getObj (C := C) hg (by simp), hck, hf]
      rcases hcase with ⟨rfl, rfl⟩ | ⟨i, u, e, e', rfl, g1, g2, rfl, g4, _⟩
      · simp only [Option.bind_eq_some_iff] at h
        obtain ⟨z, hz, h⟩ := h
        obtain ⟨_, _, _, haz⟩ := zeroB_some hz
        have hzz := VR_self_af (C := C) (ρ := ρ) 5 z haz
        have := fin z false (.inl ⟨rfl, hz, rfl⟩)
        cases ok <;> simp at h <;> subst h
        · exact ⟨_, this, hzz⟩
        · exact ⟨_, this, .tuple (.cons hzz (.cons (.bool _) .nil))⟩
      · simp only [Option.bind_eq_some_iff] at h
        obtain ⟨e2, he2, h⟩ := h
        rw [g1] at he2; cases he2
        have := fin e'.val true (.inr ⟨i, rfl, rfl⟩)
        cases ok <;> simp at h <;> subst h
        · exact ⟨_, this, g4⟩
        · exact ⟨_, this, .tuple (.cons g4 (.cons (.bool _) .nil))⟩
    rcases mapOf_sound hW hes hx with ⟨rfl, rfl⟩ | ⟨b, es', cl, rfl, hg, hers⟩
    · exact main #[] (.inl ⟨rfl, rfl⟩) .nil
    · exact main es' (.inr ⟨b, cl, rfl, hg⟩) hers
  · cases h
theorem indexF_sound {t : TypeId} {x x' i i' v : Value} (h : indexF C.P t x i = some v) (hx : VR C ρ x x') (hi : VR C ρ i i') :
    ∃ v', (Instr.index t x' i').run C.P w = .ok v' w ∧ VR C ρ v v' := by
  unfold indexF at h
  split at h
  · rename_i k n
    obtain rfl := hi.int_inv
    split at h
    · rename_i bs hu
      simp only [bind, Option.bind_eq_some_iff, nth_eq, forceN_eq] at h
      obtain ⟨u, hu', h⟩ := h
      cases h
      obtain rfl := hx.string_inv
      obtain ⟨hlt, he⟩ := List.getElem?_eq_some_iff.1 hu'
      refine ⟨_, ?_, .int _ _⟩
      rw [run_index_string (P := C.P) w t _ k _ hu]
      have hsz : (⟨⟨bs⟩⟩ : ByteArray).size = bs.length := rfl
      rw [dif_pos ⟨Int.natCast_nonneg n, by rw [hsz]; exact Int.ofNat_lt.2 hlt⟩]
      have : (⟨⟨bs⟩⟩ : ByteArray)[(Int.ofNat n).toNat]'(by rw [hsz]; exact hlt) = u := by rw [← he]; rfl
      rw [this]; rfl
    · rename_i len e cs hu
      split at h
      · rename_i hb
        have hb := (blt_iff _ _).1 hb
        simp only [bind, Option.bind_eq_some_iff] at h
        obtain ⟨sz, hsz, h⟩ := h
        obtain ⟨j, hj, hjs, _⟩ := szB_some hsz
        obtain ⟨cs', rfl, hr⟩ := hx.agg_inv
        obtain ⟨v', h1, h2⟩ := partF_sound (w := w) h hr
        refine ⟨v', ?_, h2⟩
        unfold Instr.index
        have hcond : (0 : Int) ≤ Int.ofNat n ∧ Int.ofNat n < (len : Int) := ⟨Int.natCast_nonneg n, Int.ofNat_lt.2 hb⟩
        simp only [Sem.run_bind, asIntOf, Sem.run_pure, Result.andThen_ok, run_under hu, if_pos hcond, run_size hj, hjs]
        exact h1
      · cases h
    · cases h
  · cases h
theorem lastN_eq : ∀ (l : List Nat), lastN l = l.getLast?
  | [] => rfl
  | [n] => rfl
  | n :: m :: l => by
    have := lastN_eq (m :: l)
    show lastN (m :: l) = _
    rw [this]; simp
theorem bornB_sound {s : Nat} {es es' : List MapEntry} (h : ERs C ρ es es') {e : MapEntry} (hb : bornB s es = some e) :
    ∃ e', es'.find? (·.born == s) = some e' ∧ VR C ρ e.key e'.key ∧ VR C ρ e.val e'.val := by
  induction h with
  | nil => simp [bornB] at hb
  | cons k v b t ih =>
    rename_i x x' l l'
    simp only [bornB] at hb
    split at hb
    · rename_i hq
      have hq := (beq_iff _ _).1 hq
      cases hb
      exact ⟨x', by simp [List.find?, b, hq], k, v⟩
    · rename_i hq
      have hq := (beq_false _ _).1 hq
      obtain ⟨e', h1, h2⟩ := ih hb
      exact ⟨e', by simp [List.find?, b, beq_eq_false_iff_ne.2 hq, h1], h2⟩
theorem entryF_sound (hW : WR C ρ H.get w) {x x' v : Value} (h : entryF H x = some v) (hx : VR C ρ x x') :
    ∃ v', (Instr.entry x').run C.P w = .ok v' w ∧ VR C ρ v v' := by
  unfold entryF at h
  split at h
  · rename_i r
    split at h
    · rename_i m since seen st hg
      split at h
      · rename_i s es cl hs hm
        split at h
        · rename_i e hcl hb
          cases h
          have hcl := (beq_iff _ _).1 hcl
          obtain ⟨pl, _, hp, rfl⟩ := hx.ptr_inv
          obtain ⟨q, m', g1, g0, g2, ⟨q', g3, g4⟩⟩ := hW.br _ _ hg
          rw [hp] at g1; cases g1
          obtain ⟨q2, es', k1, k2, k3⟩ := hW.br _ _ hm
          rw [g3] at k1; cases k1
          obtain ⟨e', f1, f2, f3⟩ := bornB_sound k3 hb
          refine ⟨.tuple #[e'.key, e'.val], ?_, .tuple (.cons f2 (.cons f3 .nil))⟩
          have hback : (seen.toArray).back? = some s := by rw [lastN_eq] at hs; simpa using hs
          have hfind : es'.find? (·.born == s) = some e' := by rw [← Array.find?_toList]; exact f1
          subst g4 hcl
          unfold Instr.entry
          simp only [g0, Sem.run_bind, run_getObj (C := C) g2 (by simp), Result.andThen_ok, hback, run_getObj (C := C) k2 (by simp), bne_self_eq_false, Bool.false_eq_true, if_false, Sem.run_pure, hfind]
        · cases h
      · cases h
    · cases h
  · cases h
theorem atF_sound {sz : Nat} {a : Addr} {i n : Nat} {e : TypeId} {v : Value} (h : atF C.P a i n e = some v) :
    a.spot = none ∧ i < n ∧ ∃ sz, szB C.P e = some sz ∧ v = .pointer (some ⟨a.block, a.off + i * sz, none⟩) := by
  unfold atF at h
  split at h
  · rename_i h1 h2
    simp only [bind, Option.bind_eq_some_iff, forceN_eq] at h
    obtain ⟨sz, hsz, h⟩ := h
    cases h
    exact ⟨h1, (blt_iff _ _).1 h2, sz, hsz, rfl⟩
  · cases h
theorem lenF_sound (hW : WR C ρ H.get w) {t ty : TypeId} {ts : Array TypeId} {x x' v : Value} (h : lenF C.P H t x = some v) (hx : VR C ρ x x') (hts : ts[0]? = some t) :
    ∃ v', (Builtin.len_ ts ty #[x']).run C.P w = .ok v' w ∧ VR C ρ v v' := by
  have h0 : (#[x'] : Array Value)[0]? = some x' := rfl
  unfold lenF at h
  split at h
  · rename_i bs hu
    simp at h; subst h
    obtain rfl := hx.string_inv
    exact ⟨.int .i64 (.ofNat bs.length), by simp only [Builtin.len_, hts, h0, Sem.run_bind, run_under hu, Result.andThen_ok, Sem.run_pure]; rfl, .int _ _⟩
  · rename_i e b n c hu
    cases h
    obtain ⟨b', c', rfl, _⟩ := hx.slice_len
    exact ⟨.int .i64 (.ofNat n), by simp only [Builtin.len_, hts, h0, Sem.run_bind, run_under hu, Result.andThen_ok, Sem.run_pure]; rfl, .int _ _⟩
  · rename_i k e hu
    cases h
    cases hx
    exact ⟨.int .i64 (.ofNat 0), by simp only [Builtin.len_, hts, h0, Sem.run_bind, run_under hu, Result.andThen_ok, Sem.run_pure]; rfl, .int _ _⟩
  · rename_i k e r hu
    split at h
    · rename_i es cl hg
      simp at h; subst h
      obtain ⟨pl, hp, rfl⟩ := hx.map_inv
      obtain ⟨q, es', g1, g2, g3⟩ := hW.br _ _ hg
      rw [hp] at g1; cases g1
      have hl := g3.length
      rw [Array.length_toList] at hl
      exact ⟨.int .i64 (.ofNat es.length), by simp only [Builtin.len_, hts, h0, Sem.run_bind, run_under hu, Result.andThen_ok, Sem.run_pure, run_getObj (C := C) g2 (by simp), hl]; rfl, .int _ _⟩
    · cases h
  · rename_i n e hu
    cases h
    exact ⟨.int .i64 (.ofNat n), by simp only [Builtin.len_, hts, h0, Sem.run_bind, run_under hu, Result.andThen_ok, Sem.run_pure]; rfl, .int _ _⟩
  · rename_i a hu
    split at h
    · rename_i n e hu2
      cases h
      exact ⟨.int .i64 (.ofNat n), by simp only [Builtin.len_, hts, h0, Sem.run_bind, run_under hu, Result.andThen_ok, Sem.run_pure, run_under hu2]; rfl, .int _ _⟩
    · cases h
  · cases h
/-- Cells that are bytes. -/
theorem bytesOf_some : ∀ {cs cs' : List Value} {bs : List UInt8}, bytesOf cs = some bs → VRs C ρ cs cs' → ∃ ns : List Int, cs' = ns.map (Value.int .u8) ∧ bs = ns.map fun n => UInt8.ofNat n.toNat
  | [], _, bs, h, .nil => by simp [bytesOf] at h; subst h; exact ⟨[], rfl, rfl⟩
  | v :: vs, _, bs, h, .cons r t => by
    simp only [bytesOf] at h
    split at h
    · rename_i n
      simp only [forceU_eq, bind, Option.bind_eq_some_iff] at h
      obtain ⟨us, hus, e⟩ := h
      cases e
      obtain rfl := r.int_inv
      obtain ⟨ns, h1, h2⟩ := bytesOf_some hus t
      exact ⟨n :: ns, by rw [h1]; rfl, by rw [h2]; rfl⟩
    · cases h
theorem foldl_push (ns : List Int) : ∀ (s : ByteArray), ns.foldl (fun r n => r.push (UInt8.ofNat n.toNat)) s = ⟨⟨s.data.toList ++ ns.map fun n => UInt8.ofNat n.toNat⟩⟩ := by
  induction ns with
  | nil => intro s; simp
  | cons n ns ih =>
    intro s
    rw [List.foldl_cons, ih]
    apply ByteArray.ext
    apply Array.ext'
    simp [ByteArray.push]
theorem run_bytes (hW : WR C ρ H.get w) {x : Bool × TypeId × Option Nat × Tr Value} {b : Nat} (hb : blkOf H b = some x) {pl : Pl} (hp : ρ b = some pl) {n o c : Nat} {cs : List Value} {bs : List UInt8}
    (hc : cellsAt x.2.2.2 n o = some cs) (hbs : bytesOf cs = some bs) :
    (Conv.bytesToString (.slice (some ⟨pl.blk, pl.sh + o, none⟩) n c)).run C.P w = .ok (.string ⟨⟨bs⟩⟩) w := by
  obtain ⟨cs', h1, h2⟩ := run_cells hW hb hp hc
  obtain ⟨ns, rfl, rfl⟩ := bytesOf_some hbs h1
  rw [run_bytesToString (P := C.P) w _ _ _ ns h2, foldl_push]
  rfl
theorem convV_sound (hW : WR C ρ H.get w) {src dst : TypeId} {x x' v : Value} (h : convV C.P H src dst x = some v) (hx : VR C ρ x x') :
    ∃ v', (convert src dst x').run C.P w = .ok v' w ∧ VR C ρ v v' := by
  unfold convV at h
  split at h
  · rename_i t a hs hd
    split at h
    · rename_i hz hsp
      simp only [bind, Option.bind_eq_some_iff] at h
      obtain ⟨y, hy, u, hu, h⟩ := h
      cases h
      obtain ⟨j, hj, hjs, hpos⟩ := sizeB_pos hz
      obtain ⟨pl, _, hp, rfl⟩ := hx.ptr_inv
      obtain ⟨u', h1, h2⟩ := hW.cell hy hp hu
      exact ⟨_, run_convert_to_unsafe (P := C.P) hs hd (by rw [hj]; simp; omega) h1, hx⟩
    · cases h
  · rename_i u a hs hd
    split at h
    · rename_i hz hsp
      simp only [bind, Option.bind_eq_some_iff] at h
      obtain ⟨y, hy, n, hn, h⟩ := h
      split at h
      · rename_i hl
        cases h
        obtain ⟨j, hj, hjs, hpos⟩ := sizeB_pos hz
        obtain ⟨pl, _, hp, rfl⟩ := hx.ptr_inv
        obtain ⟨ro, el, n', tr⟩ := y
        simp only at hn hl
        subst hn
        obtain ⟨q, c, fz, g1, g2, g3, g4, g5, g6, g7⟩ := hW.br _ _ (blkOf_some hy)
        rw [hp] at g1; cases g1
        refine ⟨_, Lib.run_from_unsafe (P := C.P) w _ hs hd hj (e := el) (cells := n) ?_ ?_, hx⟩
        · simp [World.shape?, g2]; exact g6
        · simp only [g7, Nat.zero_add]; exact hl
      · cases h
    · cases h
  · rename_i k k' kk n hs hd
    simp at h; subst h
    obtain rfl := hx.int_inv
    exact ⟨_, by simp [convert, run_under hs, run_under hd, Conv.intToInt], .int _ _⟩
  · rename_i s hs hd
    cases h
    obtain rfl := hx.string_inv
    exact ⟨_, by simp [convert, run_under hs, run_under hd], .string _⟩
  · rename_i e base len cap hs hd
    split at h
    · rename_i hu
      cases h
      obtain ⟨rfl, _⟩ := hx.slNil_inv
      exact ⟨.string ⟨⟨[]⟩⟩, by rw [run_convert_bytes_string (P := C.P) w _ _ e _ _ _ hs hu hd]; rfl, .string _⟩
    · rename_i a hu
      split at h
      · cases h
      · rename_i hsp
        split at h
        · rename_i hl
          have hl := (beq_iff _ _).1 hl
          subst hl
          cases h
          obtain ⟨b', c', rfl, hb⟩ := hx.slice_len
          obtain ⟨z, rfl⟩ := Option.isSome_iff_exists.1 hb.symm
          refine ⟨.string ⟨⟨[]⟩⟩, ?_, .string _⟩
          rw [run_convert_bytes_string (P := C.P) w _ _ e _ _ _ hs hu hd, run_bytesToString (P := C.P) w _ _ _ [] rfl]
          rfl
        · rename_i hl
          have hl := (beq_false _ _).1 hl
          simp only [bind, Option.bind_eq_some_iff] at h
          obtain ⟨y, hy, cs, hcs, bs, hbs, h⟩ := h
          cases h
          obtain ⟨pl, c', _, hp, rfl⟩ := hx.slice_pos (Nat.pos_of_ne_zero hl)
          refine ⟨_, ?_, .string _⟩
          rw [run_convert_bytes_string (P := C.P) w _ _ e _ _ _ hs hu hd]
          exact run_bytes hW hy hp hcs hbs
    · cases h
  · split at h
    · rename_i ha
      split at h
      · rename_i u hu
        obtain rfl := VR_af 5 _ _ ha hx
        exact ⟨u, pureRun_sound _ _ _ hu w, outV_sound h⟩
      · cases h
    · cases h
theorem VR.slice_pos2 {v' : Value} {a : Addr} {l c : Nat} (h : VR C ρ (.slice (some a) l c) v') (hl : 0 < l) :
    ∃ pl c', a.spot = none ∧ ρ a.block = some pl ∧ l ≤ c' ∧ v' = .slice (some ⟨pl.blk, pl.sh + a.off, none⟩) l c' := by
  obtain ⟨pl, h1, h2, h3 | ⟨_, c', h3, _, h4⟩ | ⟨_, h0, _⟩⟩ := h.slice_inv
  · exact ⟨pl, c, h1, h2, h3.2.1, h3.2.2⟩
  · exact ⟨pl, c', h1, h2, h3, h4⟩
  · omega
theorem run_next_v {n : Next} {P : Program} {s : Sem Next} (h : pureRun P s = some n) (w : World) : s.run P w = .ok n w := pureRun_sound P s n h w
theorem builtinV_sound (hW : WR C ρ H.get w) {b : Builtin} {ts : List TypeId} {ty : TypeId} {xs : List Operand} {vs vs' : List Value} {v : Value}
    (h : builtinV C.P H b ts ty xs vs = some v) (hv : VRs C ρ vs vs') :
    ∃ v', (builtin b ts.toArray ty (xs.map isConstO).toArray vs'.toArray).run C.P w = .ok (.value v') w ∧ VR C ρ v v' := by
  unfold builtinV at h
  split at h
  · -- len
    cases hv with
    | cons r t =>
    cases t
    obtain ⟨v', h1, h2⟩ := lenF_sound hW (ty := ty) h r (ts := (_ :: _ : List TypeId).toArray) rfl
    exact ⟨v', run_v h1, h2⟩
  · -- cap
    cases hv with
    | cons r t =>
    cases t
    rename_i t _ b l n _
    split at h
    · rename_i e hu hc
      have hc := (ble_false _ _).1 hc
      cases h
      refine ⟨.int .i64 (.ofNat n), run_v ?_, .int _ _⟩
      have hcap : ∀ {b : Option Addr} {u : Value}, VR C ρ (.slice b l n) u → ∃ b' l', u = Value.slice b' l' n := fun r => by
        cases r with
        | slNil l c hl => exact ⟨_, _, rfl⟩
        | sl l c h hl hc => exact ⟨_, _, rfl⟩
        | slU => unfold capU at hc; omega
        | slE => unfold capE at hc; omega
      obtain ⟨b', l', rfl⟩ := hcap r
      simp only [Builtin.cap_, List.getElem?_toArray, List.getElem?_cons_zero, Sem.run_bind, run_under hu, Result.andThen_ok, Sem.run_pure]; rfl
    · rename_i e b hu hc hl
      have hl := (beq_false _ _).1 hl
      cases h
      have hc := (ble_iff _ _).1 hc
      obtain ⟨pl, _, hp, h3⟩ := r.slice_inv
      rcases h3 with ⟨h3, _⟩ | ⟨_, c', h4, h5, rfl⟩ | ⟨_, h4, _⟩
      · omega
      · refine ⟨.int .i64 c', run_v ?_, .tok2 _ (by omega)⟩
        simp only [Builtin.cap_, List.getElem?_toArray, List.getElem?_cons_zero, Sem.run_bind, run_under hu, Result.andThen_ok, Sem.run_pure]; rfl
      · omega
    · cases h
  · cases hv with
    | cons r t =>
    cases t
    cases h
    obtain ⟨rfl, _⟩ := r.slNil_inv
    exact ⟨.pointer none, run_v (Lib.run_unsafeSliceData_nil (P := C.P) (w := w) _ _ _ _), .ptrNil⟩
  · cases hv with
    | cons r t =>
    cases t
    rename_i a n _ _
    split at h
    · cases h
    · rename_i hn
      have hn := (beq_false _ _).1 hn
      cases h
      obtain ⟨pl, c', hsp, hp, hc, rfl⟩ := r.slice_pos2 (Nat.pos_of_ne_zero hn)
      obtain ⟨ab, ao, as_⟩ := a
      simp only at hsp hp
      subst hsp
      exact ⟨.pointer (some ⟨pl.blk, pl.sh + ao, none⟩), run_v (Lib.run_unsafeSliceData_row (P := C.P) (w := w) _ _ _ _ _ (by omega)), .ptr hp⟩
  all_goals first
    | (split at h
       · rename_i ha
         split at h
         · rename_i u hu
           obtain rfl := VRs_af 5 ha hv
           exact ⟨u, pureRun_sound _ _ _ hu w, outV_sound h⟩
         · cases h
       · cases h)
    | cases h
end
end
end Go.Proofs.YtgljampcnbgbhaaGreatDoor.Ev
namespace Go.Proofs.YtgljampcnbgbhaaGreatDoor.Ev
open Go Go.RowKit

section
variable {C : Cx} {ρ : Ren} {H : Heap} {w : World} {T : Tr Value} {a : Act}
theorem fieldOf_some {t : TypeId} {f : Nat} {fd : Field} (h : fieldOf C.P t f = some fd) : ∃ fs, C.P.underlying t = some (.struct fs) ∧ fs[f]? = some fd := by
  unfold fieldOf at h
  split at h
  · rename_i fs hu
    rw [nth_eq] at h
    exact ⟨fs, hu, by rw [← Array.getElem?_toList]; exact h⟩
  · cases h
theorem opV_sound (hX : C.Ok) (hD : C.D.oneCell' = true) {o : Oper} {v : Value} (h : opV C.P T H o = some v) (hO : ∀ x ∈ o.op.operands, OR C ρ T a x) (hW : WR C ρ H.get w) :
    ∃ v', (execOp a.eval o).run C.P w = .ok (.value v') w ∧ VR C ρ v v' := by
  obtain ⟨dst, op, ty, pos, after, guard⟩ := o
  unfold opV at h
  simp only at h hO
  split at h
  · -- move
    exact ⟨_, rfl, hO _ (by simp [Op.operands]) _ h⟩
  · exact ⟨_, rfl, hO _ (by simp [Op.operands]) _ h⟩
  · -- pick
    rename_i x y z
    simp only [bind, Option.bind_eq_some_iff] at h
    obtain ⟨u, hu, h⟩ := h
    have h0 := hO x (by simp [Op.operands]) _ hu
    split at h
    · have := h0.bool_inv
      exact ⟨a.eval y, by simp [execOp, this, asBool], hO y (by simp [Op.operands]) _ h⟩
    · have := h0.bool_inv
      exact ⟨a.eval z, by simp [execOp, this, asBool], hO z (by simp [Op.operands]) _ h⟩
    · cases h
  · -- build
    rename_i t ps
    simp only [bind, Option.bind_eq_some_iff] at h
    obtain ⟨vs, hvs, h⟩ := h
    have hp := partsV_sound (C := C) (ρ := ρ) (a := a) (fun x hx => hO x.2 (by simp only [Op.operands, List.mem_toArray, List.mem_map]; exact ⟨x, hx, rfl⟩)) hvs
    have hp' : PVs C ρ vs (ps.map fun (i, x) => (i, a.eval x)).toList := by rw [Array.toList_map]; exact hp
    split at h
    · rename_i fs z hu hz
      split at h
      · cases h
      · rename_i ha
        simp only [Option.bind_eq_some_iff] at h
        obtain ⟨cs, hcs, h⟩ := h
        cases h
        obtain ⟨cs', h1, h2⟩ := build_struct (w := w) hD hu hz ha hcs hp'
        exact ⟨.agg cs', run_v h1, .agg h2⟩
    · rename_i n e z hu hz
      simp only [Option.bind_eq_some_iff] at h
      obtain ⟨sz, hsz, cs, hcs, h⟩ := h
      cases h
      obtain ⟨cs', h1, h2⟩ := build_array (w := w) hD hu hz hsz hcs hp'
      exact ⟨.agg cs', run_v h1, .agg h2⟩
    · cases h
  · -- load
    rename_i t x
    simp only [bind, Option.bind_eq_some_iff] at h
    obtain ⟨u, hu, h⟩ := h
    have h0 := hO x (by simp [Op.operands]) _ hu
    split at h
    · rename_i ad
      obtain ⟨pl, hs, hp, he⟩ := h0.ptr_inv
      obtain ⟨v', h1, h2⟩ := ldVar_sound hW h hp
      exact ⟨v', run_v (by rw [he]; simp [Instr.loadAt, Instr.sureAddr, h1]), h2⟩
    · cases h
  · -- nilCheck
    rename_i x
    simp only [bind, Option.bind_eq_some_iff] at h
    obtain ⟨u, hu, h⟩ := h
    have h0 := hO x (by simp [Op.operands]) _ hu
    split at h
    · cases h
      obtain ⟨pl, hs, hp, he⟩ := h0.ptr_inv
      exact ⟨a.eval x, by simp [execOp, he], h0⟩
    · cases h
      obtain ⟨p, q, he, _⟩ := h0.func_inv
      exact ⟨a.eval x, by simp [execOp, he], h0⟩
    · cases h
  · -- binOp
    rename_i op t x y yt
    simp only [bind, Option.bind_eq_some_iff] at h
    obtain ⟨u, hu, u2, hu2, h⟩ := h
    obtain ⟨v', h1, h2⟩ := binF_sound (w := w) hX h (hO x (by simp [Op.operands]) _ hu) (hO y (by simp [Op.operands]) _ hu2)
    exact ⟨v', run_v h1, h2⟩
  · -- unOp
    rename_i op t x
    simp only [bind, Option.bind_eq_some_iff] at h
    obtain ⟨u, hu, h⟩ := h
    have h0 := hO x (by simp [Op.operands]) _ hu
    split at h
    · rename_i b
      simp at h; subst h
      have := h0.bool_inv
      exact ⟨.bool (!b), run_v (by rw [this]; rfl), .bool _⟩
    · split at h
      · rename_i ha
        split at h
        · rename_i r hr
          have := VR_af 5 _ _ ha h0
          exact ⟨r, run_v (by rw [this]; exact pureRun_sound _ _ _ hr w), outV_sound h⟩
        · cases h
      · cases h
  · -- convert
    rename_i s d x
    simp only [bind, Option.bind_eq_some_iff] at h
    obtain ⟨u, hu, h⟩ := h
    obtain ⟨v', h1, h2⟩ := convV_sound hW h (hO x (by simp [Op.operands]) _ hu)
    exact ⟨v', run_v h1, h2⟩
  · -- makeFunc
    rename_i f first cap
    simp only [bind, Option.bind_eq_some_iff] at h
    obtain ⟨us, hus, ws, hws, h⟩ := h
    have h1 := opds_sound (C := C) (ρ := ρ) (a := a) (fun x hx => hO x (by simp [Op.operands]; exact .inl (by simpa using hx))) hus
    have h2 := opds_sound (C := C) (ρ := ρ) (a := a) (fun x hx => hO x (by simp [Op.operands]; exact .inr (by simpa using hx))) hws
    split at h
    · cases h
      refine ⟨_, run_v rfl, .func _ ?_ ?_⟩
      · simpa using h1
      · simpa using h2
    · cases h
  · -- slice
    rename_i t x lo hi mx
    simp only [bind, Option.bind_eq_some_iff] at h
    obtain ⟨u, hu, l', hl, h', hh, m', hm, h⟩ := h
    have vo : ∀ {y : Option Operand} {r : Option Value}, (∀ z ∈ y, OR C ρ T a z) → opdO T y = some r → VO C ρ r (y.map a.eval) := fun {y r} hy hr => by
      rcases opdO_sound hy hr with ⟨rfl, rfl⟩ | ⟨z, q, rfl, rfl, hz⟩
      · exact .none
      · exact .some hz
    obtain ⟨v', h1, h2⟩ := sliceF_sound hW h (hO x (by simp [Op.operands]) _ hu)
      (vo (fun z hz => hO z (by simp only [Option.mem_def] at hz; subst hz; simp [Op.operands])) hl)
      (vo (fun z hz => hO z (by simp only [Option.mem_def] at hz; subst hz; simp [Op.operands])) hh)
      (vo (fun z hz => hO z (by simp only [Option.mem_def] at hz; subst hz; simp [Op.operands])) hm)
    exact ⟨v', run_v h1, h2⟩
  · -- fieldAddr
    rename_i t x f
    simp only [bind, Option.bind_eq_some_iff] at h
    obtain ⟨u, hu, h⟩ := h
    have h0 := hO x (by simp [Op.operands]) _ hu
    split at h
    · rename_i ad fd hfd
      split at h
      · rename_i hsp hz
        simp at h; subst h
        obtain ⟨fs, hfs, hf⟩ := fieldOf_some hfd
        obtain ⟨j, hj, hjs, hpos⟩ := sizeB_pos hz
        obtain ⟨pl, _, hp, he⟩ := h0.ptr_inv
        refine ⟨.pointer (some ⟨pl.blk, pl.sh + (ad.off + fd.offset), none⟩), run_v ?_, .ptr hp⟩
        rw [he]
        simp only [Instr.fieldAt, Sem.run_bind, run_under hfs, Result.andThen_ok, hf, Instr.sureAddr, Sem.run_pure, fieldPlace, run_size hj]
        rw [if_neg (by omega)]
        simp [addr_add, Nat.add_assoc]
      · cases h
    · cases h
  · -- field
    rename_i t x f
    simp only [bind, Option.bind_eq_some_iff] at h
    obtain ⟨u, hu, h⟩ := h
    have h0 := hO x (by simp [Op.operands]) _ hu
    split at h
    · rename_i cs fd hfd
      obtain ⟨fs, hfs, hf⟩ := fieldOf_some hfd
      obtain ⟨cs', he, hr⟩ := h0.agg_inv
      obtain ⟨v', h1, h2⟩ := partF_sound (w := w) h hr
      refine ⟨v', run_v ?_, h2⟩
      rw [he]
      simp only [Instr.field, Sem.run_bind, run_under hfs, Result.andThen_ok, hf, asAgg, Sem.run_pure, h1]
    · cases h
  · -- indexAddr
    rename_i t x i
    simp only [bind, Option.bind_eq_some_iff] at h
    obtain ⟨u, hu, u2, hu2, h⟩ := h
    have h0 := hO x (by simp [Op.operands]) _ hu
    have h1 := hO i (by simp [Op.operands]) _ hu2
    split at h
    · rename_i k n
      have hi := h1.int_inv
      split at h
      · rename_i len e ad hty
        obtain ⟨hsp, hlt, sz, hsz, rfl⟩ := atF_sound (sz := 0) h
        obtain ⟨j, hj, hjs, hpos, _⟩ := szB_some hsz
        obtain ⟨pl, _, hp, he⟩ := h0.ptr_inv
        refine ⟨.pointer (some ⟨pl.blk, pl.sh + (ad.off + n * sz), none⟩), run_v ?_, .ptr hp⟩
        rw [he, hi]
        have hc : (0 : Int) ≤ Int.ofNat n ∧ Int.ofNat n < (len : Int) := ⟨Int.natCast_nonneg n, Int.ofNat_lt.2 hlt⟩
        simp only [Instr.indexAt, Sem.run_bind, asIntOf, Sem.run_pure, Result.andThen_ok, run_under hty, Instr.sureAddr, if_pos hc, run_size hj, hjs]
        simp [addr_add, Nat.add_assoc]
      · rename_i e ad len cap hty
        obtain ⟨hsp, hlt, sz, hsz, rfl⟩ := atF_sound (sz := 0) h
        obtain ⟨j, hj, hjs, hpos, _⟩ := szB_some hsz
        obtain ⟨pl, c', _, hp, he⟩ := h0.slice_pos (by omega)
        refine ⟨.pointer (some ⟨pl.blk, pl.sh + (ad.off + n * sz), none⟩), run_v ?_, .ptr hp⟩
        rw [he, hi]
        have hc : (0 : Int) ≤ Int.ofNat n ∧ Int.ofNat n < (len : Int) := ⟨Int.natCast_nonneg n, Int.ofNat_lt.2 hlt⟩
        simp only [Instr.indexAt, Sem.run_bind, asIntOf, Sem.run_pure, Result.andThen_ok, run_under hty, if_pos hc, run_size hj, hjs]
        simp [addr_add, Nat.add_assoc]
      · cases h
    · cases h
  · -- index
    rename_i t x i
    simp only [bind, Option.bind_eq_some_iff] at h
    obtain ⟨u, hu, u2, hu2, h⟩ := h
    obtain ⟨v', h1, h2⟩ := indexF_sound (w := w) h (hO x (by simp [Op.operands]) _ hu) (hO i (by simp [Op.operands]) _ hu2)
    exact ⟨v', run_v h1, h2⟩
  · -- lookup
    rename_i t x i ok
    simp only [bind, Option.bind_eq_some_iff] at h
    obtain ⟨u, hu, u2, hu2, h⟩ := h
    obtain ⟨v', h1, h2⟩ := lookupF_sound hW h (hO x (by simp [Op.operands]) _ hu) (hO i (by simp [Op.operands]) _ hu2)
    exact ⟨v', run_v h1, h2⟩
  · -- entry
    rename_i x
    simp only [bind, Option.bind_eq_some_iff] at h
    obtain ⟨u, hu, h⟩ := h
    obtain ⟨v', h1, h2⟩ := entryF_sound hW h (hO x (by simp [Op.operands]) _ hu)
    exact ⟨v', run_v h1, h2⟩
  · -- extract
    rename_i x i
    simp only [bind, Option.bind_eq_some_iff] at h
    obtain ⟨u, hu, h⟩ := h
    have h0 := hO x (by simp [Op.operands]) _ hu
    split at h
    · rename_i vs
      obtain ⟨cs', he, hr⟩ := h0.tuple_inv
      rw [nth_eq] at h
      obtain ⟨v', h1, h2⟩ := hr.get i v h
      refine ⟨v', run_v ?_, h2⟩
      rw [he]
      have : cs'[i]? = some v' := by rw [← Array.getElem?_toList]; exact h1
      simp only [Instr.extract, this, Sem.run_pure]
    · cases h
  · -- builtins
    rename_i cl
    split at h
    · rename_i b hb
      simp only [bind, Option.bind_eq_some_iff] at h
      obtain ⟨vs, hvs, h⟩ := h
      have hv := opds_sound (C := C) (ρ := ρ) (a := a) (fun x hx => hO x (by simp [Op.operands, Call.operands, hb]; simpa using hx)) hvs
      obtain ⟨v', h1, h2⟩ := builtinV_sound hW h hv
      refine ⟨v', ?_, h2⟩
      have e1 : cl.argTypes.toList.toArray = cl.argTypes := by simp
      have e2 : (cl.args.toList.map a.eval).toArray = cl.args.map a.eval := by rw [← Array.toList_map]
      rw [e1, e2] at h1
      simp only [execOp, resolve, hb, Sem.run_bind, Sem.run_pure, Result.andThen_ok, invoke]
      refine Eq.trans (congrArg (fun z => Sem.run C.P (builtin b cl.argTypes ty z (cl.args.map a.eval)) w) ?_) h1
      apply Array.ext'
      rw [Array.toList_map]
      apply List.map_congr_left
      intro x _
      cases x <;> rfl
    · cases h
  · cases h
end
end Go.Proofs.YtgljampcnbgbhaaGreatDoor.Ev
namespace Go.Proofs.YtgljampcnbgbhaaGreatDoor.Ev
open Go Go.RowKit
noncomputable section

/-- One block more, all else as it was. -/
structure NewW (w w' : World) : Prop where
  size : w'.heap.size = w.heap.size + 1
  old : ∀ i, i < w.heap.size → w'.heap[i]? = w.heap[i]?
  os : w'.os = w.os
  tape : w'.tape = w.tape
  output : w'.output = w.output
def upd (ρ : Ren) (c : Nat) (pl : Pl) : Ren := fun b => if b = c then some pl else ρ b
def setH (H : Hf) (c : Nat) (b : Option Blk) : Hf := fun x => if x = c then b else H x
theorem get_setH (H : Heap) (c : Nat) (b : Option Blk) : (H.set c b).get = setH H.get c b := by
  funext x; rw [Tr.get_set]; rfl
theorem upd_same (ρ : Ren) (c : Nat) (pl : Pl) : upd ρ c pl c = some pl := if_pos rfl
theorem upd_ne {ρ : Ren} {c b : Nat} {pl : Pl} (h : b ≠ c) : upd ρ c pl b = ρ b := if_neg h
theorem upd_sub {ρ : Ren} {c : Nat} {pl : Pl} (h : ρ c = none) : Sub ρ (upd ρ c pl) := fun b q hb => by
  rw [upd_ne (by rintro rfl; rw [h] at hb; cases hb)]; exact hb

section
variable {C : Cx} {ρ : Ren} {H : Hf} {w w' : World} {c : Nat} {b : Blk} {pl : Pl}
theorem Ext.new (hW : WR C ρ H w) (hf : ρ c = none) (hn : NewW w w') (hp : pl.blk = w.heap.size) (hb : BR C (upd ρ c pl) w' c b) (hr : roB b = false) :
    Ext C ρ H c w (upd ρ c pl) (setH H c (some b)) (c + 1) w' where
  le := by omega
  ren x hx := upd_ne (by omega)
  size := by rw [hn.size]; omega
  old i hi _ := hn.old i hi
  own i hi := fun ⟨x, k, q, h1, h2, h3, h4⟩ => by
    unfold setH at h1
    by_cases e : x = c
    · subst e; rw [upd_same] at h3; cases h3; omega
    · rw [if_neg e] at h1; rw [upd_ne e] at h3; exact ⟨x, k, q, h1, h2, h3, h4⟩
  dom x k hx := by
    unfold setH at hx
    by_cases e : x = c
    · right; omega
    · rw [if_neg e] at hx; exact .inl ⟨k, hx⟩
  newRo x k hx hc := by
    have : x = c := by omega
    subst this
    unfold setH at hx; rw [if_pos rfl] at hx; cases hx; exact hr
  ro x k k' hx hx' := by
    have hne : x ≠ c := by rintro rfl; obtain ⟨q, hq, _⟩ := (hW.br _ _ hx).place; rw [hf] at hq; cases hq
    unfold setH at hx'; rw [if_neg hne, hx] at hx'; cases hx'; rfl
  wr := by
    have lt : ∀ x k q, H x = some k → ρ x = some q → q.blk < w.heap.size := fun x k q hx hq => by
      obtain ⟨q', h1, h2⟩ := (hW.br _ _ hx).place; rw [hq] at h1; cases h1; exact h2
    refine ⟨fun x k hx => ?_, fun x y k k' p q hx hy hor hp' hq e => ?_⟩
    · unfold setH at hx
      by_cases e : x = c
      · subst e; rw [if_pos rfl] at hx; cases hx; exact hb
      · rw [if_neg e] at hx
        exact (hW.br x k hx).keep (upd_sub hf) fun q hq => hn.old _ (lt x k q hx hq)
    · unfold setH at hx hy
      by_cases e1 : x = c <;> by_cases e2 : y = c
      · rw [e1, e2]
      · subst e1; rw [upd_same] at hp'; cases hp'; rw [if_neg e2] at hy; rw [upd_ne e2] at hq
        have := lt y k' q hy hq; omega
      · subst e2; rw [upd_same] at hq; cases hq; rw [if_neg e1] at hx; rw [upd_ne e1] at hp'
        have := lt x k p hx hp'; omega
      · rw [if_neg e1] at hx; rw [if_neg e2] at hy; rw [upd_ne e1] at hp'; rw [upd_ne e2] at hq
        exact hW.inj x y k k' p q hx hy hor hp' hq e
  os := hn.os
  tape := hn.tape
  output := hn.output

/-- A new block of cells. -/
theorem newCells_br {ρ : Ren} {el : TypeId} {n : Option Nat} {cs : List Value} {cs' : Array Value} {fz : Nat × Nat} (hb : mkBlk el n cs = some b) (hp : ρ c = some pl) (hsh : pl.sh = 0)
    (hw : w'.heap[pl.blk]? = some (.cells cs' el fz)) (hfz : Open cs' fz) (hfin : pl.fin ≤ cs'.size)
    (hr : ∀ (i : Nat) v, cs[i]? = some v → ∃ v', cs'[i]? = some v' ∧ VR C ρ v v') (hn : match n with
       | some m => cs'.size = m
       | none => 0 < pl.sz ∧ pl.sz = C.P.cellsOf el ∧ cs.length ≤ pl.fin) : BR C ρ w' c b ∧ roB b = false := by
  unfold mkBlk at hb
  rw [Tr.ofList_eq] at hb
  cases hb
  refine ⟨⟨pl, cs', fz, hp, hw, by omega, fun o v hv => ?_, hfz, ?_⟩, rfl⟩
  · rw [Tr.get_mk] at hv
    rw [hsh, Nat.zero_add]; exact hr o v hv
  · cases n with
    | some m => exact ⟨hn, hsh⟩
    | none => exact ⟨hn.1, hn.2.1, fun o v hv => by rw [Tr.get_mk] at hv; have := (List.getElem?_eq_some_iff.1 hv).1; omega⟩
/-- A block turned where it lies (or known no more). -/
theorem Ext.turn {x : Nat} {k : Blk} {k' : Option Blk} {c : Nat} (hW : WR C ρ H w) (hb : H x = some k) (hr : roB k = false) (hp : ρ x = some pl) (hsize : w'.heap.size = w.heap.size)
    (hold : ∀ i, i ≠ pl.blk → w'.heap[i]? = w.heap[i]?) (hos : w'.os = w.os) (htape : w'.tape = w.tape) (hout : w'.output = w.output)
    (hk' : ∀ y, k' = some y → BR C ρ w' x y ∧ roB y = false) : Ext C ρ H c w ρ (setH H x k') c w' where
  le := Nat.le_refl _
  ren _ _ := rfl
  size := by omega
  old i hi ho := hold i fun e => ho ⟨x, k, pl, hb, hr, hp, e.symm⟩
  own i hi := fun ⟨y, k2, q, h1, h2, h3, h4⟩ => by
    unfold setH at h1
    by_cases e : y = x
    · subst e; exact ⟨y, k, q, hb, hr, h3, h4⟩
    · rw [if_neg e] at h1; exact ⟨y, k2, q, h1, h2, h3, h4⟩
  dom y k2 hy := by
    unfold setH at hy
    by_cases e : y = x
    · subst e; exact .inl ⟨k, hb⟩
    · rw [if_neg e] at hy; exact .inl ⟨k2, hy⟩
  newRo y k2 _ hc := by omega
  ro y k2 k3 h2 h3 := by
    unfold setH at h3
    by_cases e : y = x
    · subst e; rw [if_pos rfl] at h3; rw [hb] at h2; cases h2; rw [(hk' k3 h3).2, hr]
    · rw [if_neg e, h2] at h3; cases h3; rfl
  wr := by
    refine ⟨fun y k2 hy => ?_, fun y z k2 k3 p q hy hz hor hp' hq e => ?_⟩
    · unfold setH at hy
      by_cases e : y = x
      · subst e; rw [if_pos rfl] at hy; exact (hk' k2 hy).1
      · rw [if_neg e] at hy
        exact (hW.br y k2 hy).keep (Sub.refl _) fun q hq => hold _ fun h => e (hW.inj y x k2 k q pl hy hb (.inr hr) hq hp h)
    · have get : ∀ {u kk}, setH H x k' u = some kk → ∃ k0, H u = some k0 ∧ (roB kk = false → roB k0 = false) := fun {u kk} hu => by
        unfold setH at hu
        by_cases e : u = x
        · subst e; exact ⟨k, hb, fun _ => hr⟩
        · rw [if_neg e] at hu; exact ⟨kk, hu, id⟩
      obtain ⟨k4, h4, o4⟩ := get hy
      obtain ⟨k5, h5, o5⟩ := get hz
      exact hW.inj y z k4 k5 p q h4 h5 (hor.imp o4 o5) hp' hq e
  os := hos
  tape := htape
  output := hout
theorem open_zero (c : Array Value) : Open c (0, 0) := fun o _ h => by simp at h
end

/-! Stores. -/
section
variable {w : World}
theorem setCells_shape (b : Nat) : ∀ (vs : List Value) (o : Nat) (w : World), (w.setCells b o vs).heap.size = w.heap.size ∧ (w.setCells b o vs).os = w.os ∧ (w.setCells b o vs).tape = w.tape ∧ (w.setCells b o vs).output = w.output ∧
    (∀ i, i ≠ b → (w.setCells b o vs).heap[i]? = w.heap[i]?) ∧
    (∀ c el fz, w.heap[b]? = some (.cells c el fz) → ∃ c', (w.setCells b o vs).heap[b]? = some (.cells c' el fz) ∧ c'.size = c.size ∧
      (o + vs.length ≤ c.size → ∀ i, c'[i]? = if o ≤ i ∧ i < o + vs.length then vs[i - o]? else c[i]?))
  | [], o, w => ⟨rfl, rfl, rfl, rfl, fun _ _ => rfl, fun c el fz h => ⟨c, h, rfl, fun _ i => by rw [if_neg (by simp)]⟩⟩
  | v :: vs, o, w => by
    obtain ⟨h1, h2, h3, h4, h5, h6⟩ := setCells_shape b vs (o + 1) (w.setCell ⟨b, o, none⟩ v)
    have s1 : (w.setCell ⟨b, o, none⟩ v).heap.size = w.heap.size := by simp [World.setCell]
    refine ⟨h1.trans s1, h2, h3, h4, fun i hi => ?_, fun c el fz hc => ?_⟩
    · rw [World.setCells, h5 i hi]
      simp [World.setCell, Array.getElem?_modify, Ne.symm hi]
    · have hs : (w.setCell ⟨b, o, none⟩ v).heap[b]? = some (.cells (c.setIfInBounds o v) el fz) := by
        simp [World.setCell, Array.getElem?_modify, hc]
      obtain ⟨c', g1, g2, g3⟩ := h6 _ el fz hs
      refine ⟨c', g1, by rw [g2]; simp, fun hl i => ?_⟩
      simp only [List.length_cons] at hl ⊢
      rw [g3 (by simp; omega) i]
      by_cases e : i = o
      · subst e
        rw [if_neg (by omega), if_pos (by omega), Nat.sub_self, Array.getElem?_setIfInBounds_self_of_lt (by omega)]
        rfl
      · by_cases h' : o + 1 ≤ i ∧ i < o + 1 + vs.length
        · rw [if_pos h', if_pos (by omega), show i - o = (i - (o + 1)) + 1 by omega]; simp
        · rw [if_neg h', if_neg (by omega), Array.getElem?_setIfInBounds_ne (by omega)]
end

theorem putCells_some {R : Type} {K : Tr Value → Option R} {r : R} : ∀ {vs : List Value} {i : Nat} {t : Tr Value}, putCells vs i t K = some r →
    K (Tr.puts vs i t) = some r ∧ (∀ j, j < vs.length → (t.get (i + j)).isSome = true) ∧ (∀ v ∈ vs, oneB v = true)
  | [], i, t, h => ⟨h, fun j hj => by simp at hj, fun v hv => by cases hv⟩
  | v :: vs, i, t, h => by
    simp only [putCells] at h
    split at h
    · rename_i u hu hone
      rw [Tr.setK_eq] at h
      obtain ⟨h1, h2, h3⟩ := putCells_some h
      refine ⟨h1, fun j hj => ?_, fun x hx => ?_⟩
      · cases j with
        | zero => rw [Nat.add_zero, hu]; rfl
        | succ j =>
          have := h2 j (by simpa using hj)
          rw [Tr.get_set, if_neg (by omega)] at this
          rwa [show i + (j + 1) = Nat.succ i + j by omega]
      · rcases List.mem_cons.1 hx with rfl | hx
        · exact hone
        · exact h3 x hx
    · cases h

section
variable {C : Cx} {ρ : Ren} {H : Heap} {w : World} {c : Nat}
theorem one_of (hD : C.D.oneCell' = true) {v v' : Value} (h : VR C ρ v v') (h1 : oneB v = true) : v'.oneCell' = true := by
  cases h with
  | tok0 => exact hD
  | agg => simp [oneB] at h1
  | tuple => simp [oneB] at h1
  | _ => rfl
theorem ones_of (hD : C.D.oneCell' = true) {vs vs' : List Value} (h : VRs C ρ vs vs') (h1 : ∀ v ∈ vs, oneB v = true) : ∀ v ∈ vs', v.oneCell' = true := by
  intro v hv
  obtain ⟨i, hi⟩ := List.getElem?_of_mem hv
  have hl := h.length
  have hlt : i < vs.length := by rw [← hl]; exact (List.getElem?_eq_some_iff.1 hi).1
  obtain ⟨u, h2, h3⟩ := h.get i _ (List.getElem?_eq_getElem hlt)
  rw [hi] at h2; cases h2
  exact one_of hD h3 (h1 _ (List.getElem_mem hlt))
/-- Stored into cells that are there: the run, and what is known then. -/
theorem stCells_sound (hD : C.D.oneCell' = true) (hW : WR C ρ H.get w) {R : Type} {K : Heap → Option R} {r : R} {a : Addr} {vs vs' : List Value} (h : stCells H a vs K = some r) (hv : VRs C ρ vs vs')
    {pl : Pl} (hp : ρ a.block = some pl) :
    ∃ H', K H' = some r ∧ a.spot = none ∧ (∀ j, j < vs'.length → (w.cell? ⟨pl.blk, pl.sh + a.off + j, none⟩).isSome = true) ∧ (∀ j, j < vs'.length → w.frozen? ⟨pl.blk, pl.sh + a.off + j, none⟩ = false) ∧
      (∀ v ∈ vs', v.oneCell' = true) ∧ Ext C ρ H.get c w ρ H'.get c (w.setCells pl.blk (pl.sh + a.off) vs') := by
  unfold stCells at h
  split at h
  · cases h
  · rename_i hsp
    split at h
    · rename_i el n tr hblk
      obtain ⟨h1, h2, h3⟩ := putCells_some h
      rw [Tr.setK_eq] at h1
      have hg := blkOf_some hblk
      obtain ⟨q, cc, fz, g1, g2, g3, g4, g5, g6⟩ := hW.br _ _ hg
      rw [hp] at g1; cases g1
      have hl := hv.length
      have inb : ∀ j, j < vs.length → pl.sh + (a.off + j) < cc.size := fun j hj => by
        obtain ⟨u, hu⟩ := Option.isSome_iff_exists.1 (h2 j hj)
        obtain ⟨v', k1, _⟩ := g4 _ _ hu
        exact (Array.getElem?_eq_some_iff.1 k1).1
      obtain ⟨s1, s2, s3, s4, s5, s6⟩ := setCells_shape pl.blk vs' (pl.sh + a.off) w
      obtain ⟨c', k1, k2, k3⟩ := s6 cc el fz g2
      refine ⟨_, h1, hsp, fun j hj => ?_, fun j hj => ?_, ones_of hD hv h3, ?_⟩
      · have := inb j (by omega)
        simp [World.cell?, g2]; omega
      · have := inb j (by omega)
        have hop := g5 (pl.sh + (a.off + j)) this
        simp only [World.frozen?, g2, Nat.add_assoc]
        rw [Bool.and_eq_false_iff]
        by_cases hq : fz.1 ≤ pl.sh + (a.off + j)
        · right; simp; omega
        · left; simp; omega
      · rw [get_setH]
        refine Ext.turn hW hg rfl hp s1 s5 s2 s3 s4 fun y hy => ?_
        cases hy
        refine ⟨?_, rfl⟩
        cases hz : vs.length with
        | zero =>
          have : vs = [] := List.length_eq_zero_iff.1 hz
          subst this
          cases hv
          have := hW.br _ _ hg
          exact this
        | succ m =>
        have hfit : pl.sh + a.off + vs'.length ≤ cc.size := by have := inb m (by omega); omega
        refine ⟨pl, c', fz, hp, k1, by rw [k2]; exact g3, fun o v ho => ?_, fun o ho => g5 o (by rw [← k2]; exact ho), ?_⟩
        · rw [Tr.get_puts] at ho
          rw [k3 hfit]
          split at ho
          · rename_i hj
            rw [if_pos (by omega), show pl.sh + o - (pl.sh + a.off) = o - a.off by omega]
            exact hv.get _ _ ho
          · rename_i hj
            rw [if_neg (by omega)]
            exact g4 o v ho
        · cases n with
          | some m => exact ⟨k2.trans g6.1, g6.2⟩
          | none =>
            refine ⟨g6.1, g6.2.1, fun o v ho => ?_⟩
            rw [Tr.get_puts] at ho
            split at ho
            · rename_i hj
              obtain ⟨u, hu⟩ := Option.isSome_iff_exists.1 (h2 (o - a.off) (by omega))
              have := g6.2.2 _ _ hu
              omega
            · exact g6.2.2 o v ho
    · cases h
end
end
end Go.Proofs.YtgljampcnbgbhaaGreatDoor.Ev
namespace Go.Proofs.YtgljampcnbgbhaaGreatDoor.Ev
open Go Go.RowKit
noncomputable section

theorem newW_push (w : World) (o : Obj) (d : Nat) : NewW w { w with heap := w.heap.push o, drawn := d } :=
  ⟨by simp, fun i hi => by simp [Array.getElem?_push, Nat.ne_of_lt hi], rfl, rfl, rfl⟩
theorem push_at (w : World) (o : Obj) : (w.heap.push o)[w.heap.size]? = some o := by simp
theorem get_repL (l : List Value) : ∀ (n i : Nat), (repL n l)[i]? = if i < n * l.length then l[i % l.length]? else none
  | 0, i => by simp [repL]
  | n + 1, i => by
    rw [repL_succ, Nat.succ_mul]
    by_cases h : i < l.length
    · rw [List.getElem?_append_left h, if_pos (by omega), Nat.mod_eq_of_lt h]
    · rw [List.getElem?_append_right (by omega), get_repL l n]
      by_cases h2 : i - l.length < n * l.length
      · rw [if_pos h2, if_pos (by omega)]
        rw [← Nat.mod_eq_sub_mod (by omega)]
      · rw [if_neg h2, if_neg (by
          intro h3
          apply h2
          have := Nat.not_lt.1 h
          omega)]
theorem range_rep (z : Array Value) (n : Nat) : ((Array.range (n * z.size)).map (fun i => z[i % z.size]!)).toList = repL n z.toList := by
  apply List.ext_getElem?
  intro i
  rw [get_repL, Array.length_toList]
  by_cases h : i < n * z.size
  · have hz : 0 < z.size := by
      rcases Nat.eq_zero_or_pos z.size with h0 | h0
      · rw [h0] at h; simp at h
      · exact h0
    have hm : i % z.size < z.size := Nat.mod_lt _ hz
    rw [if_pos h]
    simp [h, hm, getElem!_pos]
  · rw [if_neg h, List.getElem?_eq_none (by simp; omega)]

section
variable {C : Cx} {ρ : Ren} {w w' : World} {T : Tr Value} {a : Act} {c : Nat}
theorem new_ptr {pl : Pl} (h0 : pl.sh = 0) : VR C (upd ρ c pl) (.pointer (some ⟨c, 0, none⟩)) (.pointer (some ⟨pl.blk, 0, none⟩)) := by
  have := VR.ptr (C := C) (o := 0) (upd_same ρ c pl)
  rwa [h0] at this
/-- A block of so many cells. -/
theorem new_exact {el : TypeId} {n : Nat} {cs : List Value} {cs' : Array Value} {b : Blk} (hb : mkBlk el (some n) cs = some b) (hn : n = cs.length) (hr : VRs C ρ cs cs'.toList) (hf : ρ c = none)
    (hw : w'.heap[w.heap.size]? = some (.cells cs' el (0, 0))) : BR C (upd ρ c ⟨w.heap.size, 0, 0, 0⟩) w' c b ∧ roB b = false := by
  have hl := hr.length
  rw [Array.length_toList] at hl
  refine newCells_br hb (upd_same _ _ _) rfl hw (open_zero _) (Nat.zero_le _) (fun i v hv => ?_) (by show cs'.size = n; omega)
  obtain ⟨v', h1, h2⟩ := hr.get i v hv
  exact ⟨v', by rw [← Array.getElem?_toList]; exact h1, h2.mono (upd_sub hf)⟩
theorem opN_sound (hD : C.D.oneCell' = true) {o : Oper} {v : Value} {b : Blk} (h : opN C.P T c o = some (v, b)) (hO : ∀ x ∈ o.op.operands, OR C ρ T a x) (hf : ρ c = none) (w : World) :
    ∃ v' pl w', (execOp a.eval o).run C.P w = .ok (.value v') w' ∧ NewW w w' ∧ pl.blk = w.heap.size ∧ VR C (upd ρ c pl) v v' ∧ BR C (upd ρ c pl) w' c b ∧ roB b = false := by
  obtain ⟨dst, op, ty, pos, after, guard⟩ := o
  unfold opN at h
  simp only at h hO
  split at h
  · -- alloc
    rename_i t
    simp only [bind, Option.bind_eq_some_iff, forceN_eq, lenL_eq] at h
    obtain ⟨z, hz, b', hb, h⟩ := h
    cases h
    obtain ⟨h1, h2⟩ := new_exact (w := w) (w' := { w with heap := w.heap.push (.cells z.cells t) }) hb rfl (zero_self (C := C) (ρ := ρ) hz) hf (push_at _ _)
    refine ⟨.pointer (some ⟨w.heap.size, 0, none⟩), ⟨w.heap.size, 0, 0, 0⟩, { w with heap := w.heap.push (.cells z.cells t) }, run_v ?_, newW_push w _ _, rfl, new_ptr rfl, h1, h2⟩
    simp only [Instr.alloc, Sem.run_bind, run_zeroB hz, Result.andThen_ok, newVar, newRow, run_newObj, Sem.run_pure]
  · -- box
    rename_i t x
    simp only [bind, Option.bind_eq_some_iff, forceN_eq, lenL_eq] at h
    obtain ⟨u, hu, b', hb, h⟩ := h
    cases h
    have h0 := hO x (by simp [Op.operands]) _ hu
    have hc : VRs C ρ (cellsV u) (a.eval x).cells.toList := by rw [cells_list]; exact h0.cellsV hD
    obtain ⟨h1, h2⟩ := new_exact (w := w) (w' := { w with heap := w.heap.push (.cells (a.eval x).cells t) }) hb rfl hc hf (push_at _ _)
    refine ⟨.pointer (some ⟨w.heap.size, 0, none⟩), ⟨w.heap.size, 0, 0, 0⟩, { w with heap := w.heap.push (.cells (a.eval x).cells t) }, run_v ?_, newW_push w _ _, rfl, new_ptr rfl, h1, h2⟩
    simp only [Instr.box, Sem.run_bind, Result.andThen_ok, newVar, newRow, run_newObj, Sem.run_pure]
  · -- buildSlice
    rename_i t n ps
    simp only [bind, Option.bind_eq_some_iff, forceN_eq, lenL_eq] at h
    obtain ⟨vs, hvs, h⟩ := h
    have hp := partsV_sound (C := C) (ρ := ρ) (a := a) (fun x hx => hO x.2 (by simp only [Op.operands, List.mem_toArray, List.mem_map]; exact ⟨x, hx, rfl⟩)) hvs
    have hp' : PVs C ρ vs (ps.map fun (i, x) => (i, a.eval x)).toList := by rw [Array.toList_map]; exact hp
    split at h
    · rename_i e hu
      simp only [Option.bind_eq_some_iff] at h
      obtain ⟨sz, hsz, z, hz, h⟩ := h
      obtain ⟨i, hi, his, hpos, _⟩ := szB_some hsz
      split at h
      · rename_i hq
        simp only [Bool.and_eq_true, ble_iff, beq_iff, blt_iff] at hq
        simp only [Option.bind_eq_some_iff] at h
        obtain ⟨cs, hcs, b', hb, h⟩ := h
        cases h
        have hzl : z.cells.size = sz := by rw [← Array.length_toList, cells_list]; exact hq.2.1
        have hzr := zero_self (C := C) (ρ := ρ) hz
        have hrange : VRs C ρ (repL n (cellsV z)) ((Array.range (n * sz)).map (fun i => z.cells[i % z.cells.size]!)).toList := by
          rw [← hzl, range_rep]; exact hzr.repL n
        obtain ⟨cs', h1, h2⟩ := fillB_sound (place' := fun i => some (i * sz, sz)) hD (fun i x hx => hx) hp' hrange hcs
        have hlen : ∀ {l : List (Nat × Value)} {zs cs : List Value}, fillB (fun i => some (i * sz, sz)) l zs = some cs → cs.length = zs.length := by
          intro l
          induction l with
          | nil => intro zs cs h; simp [fillB] at h; rw [h]
          | cons p l ih =>
            intro zs cs h
            obtain ⟨j, u⟩ := p
            simp only [fillB] at h
            split at h
            · rename_i hb2
              simp only [Bool.and_eq_true, beq_iff, ble_iff, lenL_eq] at hb2
              simp only [forceL_eq] at h
              rw [ih h, length_patch _ _ _ (by omega)]
            · cases h
        have hcl : n * sz = cs.length := by rw [hlen hcs, length_repL, hq.2.1]
        obtain ⟨k1, k2⟩ := new_exact (w := w) (w' := { w with heap := w.heap.push (.cells cs' e) }) hb hcl h2 hf (push_at _ _)
        refine ⟨.slice (some ⟨w.heap.size, 0, none⟩) n n, ⟨w.heap.size, 0, 0, 0⟩, { w with heap := w.heap.push (.cells cs' e) }, run_v ?_, newW_push w _ _, rfl, ?_, k1, k2⟩
        · unfold Instr.buildSlice
          simp only [Sem.run_bind, run_under hu, Result.andThen_ok, run_size hi, his]
          rw [if_neg (by omega)]
          by_cases h0 : n * sz = 0
          · have hz0 : (Array.range (n * sz)).map (fun i => z.cells[i % z.cells.size]!) = (Array.range (n * sz)).map (fun i => (#[] : Array Value)[i % (#[] : Array Value).size]!) := by rw [h0]; simp
            rw [hz0] at h1
            simp only [if_pos h0, Sem.run_pure, Result.andThen_ok, Sem.run_bind, h1, newRow, run_newObj]
          · simp only [if_neg h0, Sem.run_bind, run_zeroB hz, Sem.run_pure, Result.andThen_ok, h1, newRow, run_newObj]
        · exact .sl n n (upd_same _ _ _) (Nat.le_refl _) (by omega)
      · cases h
    · cases h
  · -- makeMap
    cases h
    refine ⟨.map (some w.heap.size), ⟨w.heap.size, 0, 0, 0⟩, { w with heap := w.heap.push (.map #[] 0) }, run_v rfl, newW_push w _ _, rfl, .map (upd_same _ _ _), ?_, rfl⟩
    exact ⟨_, #[], upd_same _ _ _, push_at _ _, .nil⟩
  · -- makeSlice
    rename_i t l m
    simp only [bind, Option.bind_eq_some_iff, forceN_eq, lenL_eq] at h
    obtain ⟨ul, hul, um, hum, h⟩ := h
    have hl' := hO l (by simp [Op.operands]) _ hul
    have hm' := hO m (by simp [Op.operands]) _ hum
    split at h
    · rename_i e l' m' hu
      have hl' := hl'.int_inv
      have hm' := hm'.int_inv
      simp only [Option.bind_eq_some_iff] at h
      obtain ⟨sz, hsz, z, hz, h⟩ := h
      obtain ⟨i, hi, his, hpos, _⟩ := szB_some hsz
      split at h
      · rename_i hq
        simp only [Bool.and_eq_true, ble_iff, beq_iff] at hq
        simp only [Option.bind_eq_some_iff] at h
        obtain ⟨b', hb, h⟩ := h
        cases h
        have hby : i.bytes ≤ 4096 := by have := hq.2.2.1; rw [hi] at this; simpa using this
        have hzl : z.cells.size = sz := by rw [← Array.length_toList, cells_list]; exact hq.2.2.2
        have hzr := zero_self (C := C) (ρ := ρ) hz
        have hrange : VRs C ρ (repL m' (cellsV z)) ((Array.range (m' * sz)).map (fun i => z.cells[i % z.cells.size]!)).toList := by
          rw [← hzl, range_rep]; exact hzr.repL m'
        have hcl : m' * sz = (repL m' (cellsV z)).length := by rw [length_repL, hq.2.2.2]
        obtain ⟨k1, k2⟩ := new_exact (w := w) (w' := { w with heap := w.heap.push (.cells ((Array.range (m' * sz)).map (fun i => z.cells[i % z.cells.size]!)) e) }) hb hcl hrange hf (push_at _ _)
        refine ⟨.slice (some ⟨w.heap.size, 0, none⟩) l' m', ⟨w.heap.size, 0, 0, 0⟩, _, run_v ?_, newW_push w (.cells ((Array.range (m' * sz)).map (fun i => z.cells[i % z.cells.size]!)) e) _, rfl, ?_, k1, k2⟩
        · rw [hl', hm']
          have w1 : IntKind.i64.wrap (Int.ofNat l') = (l' : Int) := wrap_small _ (by have : (0:Int) ≤ Int.ofNat l' := Int.natCast_nonneg _; omega) (by have := hq.1; have := hq.2.1; show (l' : Int) ≤ _; omega)
          have w2 : IntKind.i64.wrap (Int.ofNat m') = (m' : Int) := wrap_small _ (by have : (0:Int) ≤ Int.ofNat m' := Int.natCast_nonneg _; omega) (by have := hq.2.1; show (m' : Int) ≤ _; omega)
          have hmul : i.bytes * m' ≤ 4096 * 4096 := Nat.mul_le_mul hby hq.2.1
          have hmul' : ((i.bytes * m' : Nat) : Int) = (i.bytes : Int) * (m' : Int) := by simp
          unfold Instr.makeSlice
          simp only [Sem.run_bind, run_under hu, Result.andThen_ok, asInt, asIntOf, Sem.run_pure, run_info hi, w1, w2]
          rw [if_neg]
          · simp only [Sem.run_bind, run_askRoom, Result.andThen_ok, run_size hi, his, Int.toNat_natCast]
            by_cases h0 : m' * sz = 0
            · have hz0 : (Array.range (m' * sz)).map (fun i => z.cells[i % z.cells.size]!) = (Array.range (m' * sz)).map (fun i => (#[] : Array Value)[i % (#[] : Array Value).size]!) := by rw [h0]; simp
              simp only [if_pos h0, Sem.run_pure, Result.andThen_ok, newRow, run_newObj, Sem.run_bind, hz0]
            · simp only [if_neg h0, Sem.run_bind, run_zeroB hz, Sem.run_pure, Result.andThen_ok, newRow, run_newObj]
          · have := hq.1
            simp only [Bool.or_eq_true, decide_eq_true_eq, not_or]
            omega
        · exact .sl l' m' (upd_same _ _ _) hq.1 (by have := hq.2.1; unfold cap0; omega)
      · cases h
    · cases h
  · -- a text made bytes
    rename_i s d x
    simp only [bind, Option.bind_eq_some_iff, forceN_eq, lenL_eq, forceL_eq] at h
    obtain ⟨u, hu, h⟩ := h
    have h0 := hO x (by simp [Op.operands]) _ hu
    split at h
    · rename_i e bs hs hd
      split at h
      · rename_i he
        simp only [Option.bind_eq_some_iff] at h
        obtain ⟨sz, hsz, h⟩ := h
        obtain ⟨i, hi, his, hpos, hsB⟩ := szB_some hsz
        split at h
        · rename_i h1
          have h1 := (beq_iff _ _).1 h1
          subst h1
          simp only [forceL_eq, Option.bind_eq_some_iff] at h
          obtain ⟨b', hb, h⟩ := h
          cases h
          have hx := h0.string_inv
          have hsz : (⟨⟨bs⟩⟩ : ByteArray).size = bs.length := rfl
          have hrun := Lib.run_convert_string_bytes (P := C.P) w s d e ⟨⟨bs⟩⟩ hs hd he
          rw [hsz] at hrun
          have hcap := grownCap_ge w bs.length 0 e
          have hcells : Lib.bytesCells w e ⟨⟨bs⟩⟩ = (bs.map fun b => Value.int .u8 b.toNat).toArray ++ Array.replicate (grownCap w bs.length 0 e - bs.length) (.int .u8 0) := by
            unfold Lib.bytesCells; rw [hsz]; congr 1; simp
          have hcs : (Lib.bytesCells w e ⟨⟨bs⟩⟩).size = grownCap w bs.length 0 e := by rw [hcells]; simp; omega
          have hnew : NewW w (Lib.bytesWorld w e ⟨⟨bs⟩⟩) := ⟨Lib.bytesWorld_size _ _ _, fun i hi => Lib.bytesWorld_at_old w e _ i hi, rfl, rfl, rfl⟩
          obtain ⟨k1, k2⟩ := newCells_br (C := C) (ρ := upd ρ c ⟨w.heap.size, 0, 1, grownCap w bs.length 0 e⟩) (w' := Lib.bytesWorld w e ⟨⟨bs⟩⟩) (c := c) hb (upd_same _ _ _) rfl (Lib.bytesWorld_at_new w e ⟨⟨bs⟩⟩)
            (fun o ho hh => by omega) (by show grownCap w bs.length 0 e ≤ _; omega)
            (fun i v hv => by
              rw [hcells, Array.getElem?_append_left (by simp; simpa using (List.getElem?_eq_some_iff.1 hv).1), List.getElem?_toArray, hv]
              obtain ⟨x, _, rfl⟩ := List.mem_map.1 (List.mem_of_getElem? hv)
              exact ⟨_, rfl, .int _ _⟩)
            ⟨by show 0 < 1; omega, by show 1 = C.P.cellsOf e; unfold Program.cellsOf; rw [hi]; exact his.symm, by rw [List.length_map]; exact hcap⟩
          refine ⟨.slice (some ⟨w.heap.size, 0, none⟩) bs.length (grownCap w bs.length 0 e), _, _, run_v ?_, hnew, rfl, ?_, k1, k2⟩
          · rw [hx]; exact hrun
          · exact VR.slU (C := C) (o := 0) bs.length (grownCap w bs.length 0 e) (upd_same ρ c ⟨w.heap.size, 0, 1, grownCap w bs.length 0 e⟩) hcap (by show 0 + grownCap w bs.length 0 e * 1 = grownCap w bs.length 0 e; omega)
        · cases h
      · cases h
    · cases h
  · cases h
end
end
end Go.Proofs.YtgljampcnbgbhaaGreatDoor.Ev
