/- The evaluator: maps, ranges, appends, copies; operations in a row; code. No conditions but those that each theorem names. -/
import Derived.Test.YtgljampcnbgbhaaGreatDoorEg
import Derived.LoopN
import Derived.Scope
import Derived.Conc.MuLone
set_option linter.unusedVariables false
set_option linter.unusedSimpArgs false
namespace Go.Proofs.YtgljampcnbgbhaaGreatDoor.Ev
open Go Go.RowKit
noncomputable section

section
variable {C : Cx} {ρ ρ' : Ren} {H H' : Heap} {w : World} {c c' : Nat}
def setObjW (w : World) (r : Nat) (o : Obj) : World := { w with heap := w.heap.setIfInBounds r o }
theorem run_setObj {r : Nat} {o o' : Obj} (h : w.heap[r]? = some o) (hn : ∀ a b c, o ≠ .cells a b c) : (setObj r o').run C.P w = .ok () (setObjW w r o') := by
  simp only [setObj, Sem.run, h, setObjW]
theorem setObjW_at {r : Nat} {o o' : Obj} (h : w.heap[r]? = some o) : (setObjW w r o').heap[r]? = some o' := by
  have := (Array.getElem?_eq_some_iff.1 h).1
  simp [setObjW, this]
/-- An object turned. -/
theorem turn_obj (hW : WR C ρ H.get w) {x : Nat} {k k' : Blk} {pl : Pl} {o o' : Obj} (hb : H.get x = some k) (hr : roB k = false) (hp : ρ x = some pl) (ho : w.heap[pl.blk]? = some o)
    (hk : BR C ρ (setObjW w pl.blk o') x k') (hr' : roB k' = false) : Ext C ρ H.get c w ρ (H.set x (some k')).get c (setObjW w pl.blk o') := by
  rw [get_setH]
  refine Ext.turn hW hb hr hp (by simp [setObjW]) (fun i hi => ?_) rfl rfl rfl fun y hy => ?_
  · simp only [setObjW, Array.getElem?_setIfInBounds_ne (Ne.symm hi)]
  · cases hy; exact ⟨hk, hr'⟩

theorem ERs.modB {es es' : List MapEntry} (h : ERs C ρ es es') {k v v' : Value} (hk : VR C ρ k k) (hv : VR C ρ v v') : ∀ (i : Nat), ERs C ρ (modB k v es i) (es'.modify i fun e => { e with key := k, val := v' }) := by
  induction h with
  | nil => intro i; simp [Ev.modB]; exact .nil
  | cons kk vv b t ih =>
    intro i
    cases i with
    | zero => simp [Ev.modB]; exact .cons hk hv b t
    | succ i => simp [Ev.modB]; exact .cons kk vv b (ih i)
theorem ERs.delB {es es' : List MapEntry} (h : ERs C ρ es es') : ∀ (i : Nat), ERs C ρ (delB es i) (es'.eraseIdx i) := by
  induction h with
  | nil => intro i; simp [Ev.delB]; exact .nil
  | cons kk vv b t ih =>
    intro i
    cases i with
    | zero => simp [Ev.delB]; exact t
    | succ i => simp [Ev.delB]; exact .cons kk vv b (ih i)
theorem ERs.append {es es' fs fs' : List MapEntry} (h : ERs C ρ es es') (k : ERs C ρ fs fs') : ERs C ρ (es ++ fs) (es' ++ fs') := by
  induction h with
  | nil => exact k
  | cons kk vv b t ih => exact .cons kk vv b ih
theorem keyIx_af {P : Program} {empty : Bool} {kt : TypeId} {k : Value} {es : List MapEntry} {r : Option (Nat × Value)} (h : keyIx P empty kt k es = some r) : af 5 k = true := by
  unfold keyIx at h
  split at h
  · rename_i ha; simp only [Bool.and_eq_true] at ha; exact ha.1
  · cases h
theorem updateF_sound (hW : WR C ρ H.get w) {t : TypeId} {x x' k k' v v' u : Value} (h : updateF C.P H c t x k v = some (u, H', c')) (hx : VR C ρ x x') (hk : VR C ρ k k') (hv : VR C ρ v v') :
    ∃ w', (Instr.mapUpdate t x' k' v').run C.P w = .ok () w' ∧ Ext C ρ H.get c w ρ H'.get c' w' ∧ u = undef := by
  unfold updateF at h
  split at h
  · rename_i kt el r hu
    split at h
    · rename_i es clock hg
      simp only [bind, Option.bind_eq_some_iff] at h
      obtain ⟨ix, hix, h⟩ := h
      obtain ⟨pl, hp, rfl⟩ := hx.map_inv
      obtain ⟨q, es', g1, g2, g3⟩ := hW.br _ _ hg
      rw [hp] at g1; cases g1
      obtain ⟨rfl, hkeys, hck, r', hf, hcase⟩ := keyIx_sound hix hk g3
      have haf := keyIx_af hix
      have hkk := VR_self_af (C := C) (ρ := ρ) 5 _ haf
      have hobj := run_getObj (C := C) g2 (by simp)
      rcases hcase with ⟨rfl, rfl⟩ | ⟨i, y, e, e', rfl, k1, k2, rfl, k4, k5, k6⟩
      · simp only [forceL_eq, forceN_eq, Tr.setK_eq, Option.some.injEq, Prod.mk.injEq] at h
        obtain ⟨rfl, rfl, rfl⟩ := h
        refine ⟨_, ?_, turn_obj hW (o' := .map (es'.push { key := k', val := v', born := clock }) (clock + 1)) hg rfl hp g2 ?_ rfl, rfl⟩
        · unfold Instr.mapUpdate
          simp only [Sem.run_bind, run_under hu, Result.andThen_ok, hobj, hck, hf]
          exact run_setObj g2 (by simp)
        · refine ⟨pl, _, hp, setObjW_at g2, ?_⟩
          rw [Array.toList_push]
          exact g3.append (.cons hkk hv rfl .nil)
      · simp only [nth_eq, Option.bind_eq_some_iff] at h
        obtain ⟨e2, he2, h⟩ := h
        rw [k1] at he2; cases he2
        split at h
        · rename_i hsb
          simp only [forceL_eq, Tr.setK_eq, Option.some.injEq, Prod.mk.injEq] at h
          obtain ⟨rfl, rfl, rfl⟩ := h
          refine ⟨_, ?_, turn_obj hW (o' := .map (es'.modify i fun e => { e with key := k', val := v' }) clock) hg rfl hp g2 ?_ rfl, rfl⟩
          · have hki : (((es'[i]?).map (·.key)).getD k') = e.key := by rw [← Array.getElem?_toList, k2]; exact k5
            unfold Instr.mapUpdate
            simp only [Sem.run_bind, run_under hu, Result.andThen_ok, hobj, hck, hf, hki, Instr.keyThatStays, hsb, if_true, Sem.run_pure]
            exact run_setObj g2 (by simp)
          · refine ⟨pl, _, hp, setObjW_at g2, ?_⟩
            rw [Array.toList_modify]
            exact g3.modB hkk hv i
        · cases h
    · cases h
  · cases h
theorem deleteF_sound (hW : WR C ρ H.get w) {ts : List TypeId} {ty : TypeId} {x x' k k' u : Value} (h : deleteF C.P H c ts x k = some (u, H', c')) (hx : VR C ρ x x') (hk : VR C ρ k k') :
    ∃ w', (Builtin.delete_ ts.toArray ty #[x', k']).run C.P w = .ok (.tuple #[]) w' ∧ Ext C ρ H.get c w ρ H'.get c' w' ∧ u = undef := by
  unfold deleteF at h
  split at h
  · rename_i t ts
    split at h
    · rename_i kt el r hu
      split at h
      · rename_i es clock hg
        simp only [bind, Option.bind_eq_some_iff] at h
        obtain ⟨ix, hix, h⟩ := h
        obtain ⟨pl, hp, rfl⟩ := hx.map_inv
        obtain ⟨q, es', g1, g2, g3⟩ := hW.br _ _ hg
        rw [hp] at g1; cases g1
        obtain ⟨rfl, hkeys, hck, r', hf, hcase⟩ := keyIx_sound hix hk g3
        rw [isNilL_eq, ← isEmpty_of_ERs g3] at hck
        have hobj := run_getObj (C := C) g2 (by simp)
        have ht : (t :: ts : List TypeId).toArray[0]? = some t := rfl
        have h0 : (#[.map (some pl.blk), k'] : Array Value)[0]? = some (.map (some pl.blk)) := rfl
        have h1 : (#[.map (some pl.blk), k'] : Array Value)[1]? = some k' := rfl
        rcases hcase with ⟨rfl, rfl⟩ | ⟨i, y, e, e', rfl, k1, k2, rfl, k4, k5, k6⟩
        · cases h
          refine ⟨setObjW w pl.blk (.map es' clock), ?_, ?_, rfl⟩
          · simp only [Builtin.delete_, ht, h0, h1, Sem.run_bind, run_under hu, Result.andThen_ok, hobj, hck, hf, run_setObj g2 (by simp : ∀ a b c, Obj.map es' clock ≠ .cells a b c), Sem.run_pure]
          · have e : (H.set r (some (.mp es clock))).get = H.get := by
              funext y; rw [Tr.get_set]; split
              · rename_i e; rw [e, hg]
              · rfl
            have := turn_obj (c := c) hW (o' := .map es' clock) hg rfl hp g2 (k' := .mp es clock) ⟨pl, es', hp, setObjW_at g2, g3⟩ rfl
            rwa [e] at this
        · simp only [forceL_eq, Tr.setK_eq, Option.some.injEq, Prod.mk.injEq] at h
          obtain ⟨rfl, rfl, rfl⟩ := h
          refine ⟨_, ?_, turn_obj hW (o' := .map (es'.eraseIdxIfInBounds i) clock) hg rfl hp g2 ?_ rfl, rfl⟩
          · simp only [Builtin.delete_, ht, h0, h1, Sem.run_bind, run_under hu, Result.andThen_ok, hobj, hck, hf, run_setObj g2 (by simp : ∀ a b c, Obj.map es' clock ≠ .cells a b c), Sem.run_pure]
          · refine ⟨pl, _, hp, setObjW_at g2, ?_⟩
            have hlt : i < es'.size := by have := (List.getElem?_eq_some_iff.1 k2).1; simpa using this
            rw [Array.eraseIdxIfInBounds, dif_pos hlt, Array.toList_eraseIdx]
            exact g3.delB i
      · cases h
    · cases h
  · cases h
/-- A new object. -/
theorem newObj_ext (hW : WR C ρ H.get w) {b : Blk} {o : Obj} {v : Value} {out : Value} (h : newBlk H c b v = some (out, H', c')) (hf : Fresh ρ c c') (hr : roB b = false)
    (hb : ∀ pl w', pl.blk = w.heap.size → pl.sh = 0 → w'.heap[w.heap.size]? = some o → BR C (upd ρ c pl) w' c b) :
    out = v ∧ c' = c + 1 ∧ ∃ pl, pl.blk = w.heap.size ∧ pl.sh = 0 ∧ Ext C ρ H.get c w (upd ρ c pl) H'.get c' { w with heap := w.heap.push o } := by
  unfold newBlk at h
  simp only [Tr.setK_eq, forceN_eq, Option.some.injEq, Prod.mk.injEq] at h
  obtain ⟨rfl, rfl, rfl⟩ := h
  refine ⟨rfl, rfl, ⟨w.heap.size, 0, 0, 0⟩, rfl, rfl, ?_⟩
  rw [get_setH]
  exact Ext.new hW (hf c (Nat.le_refl _) (by omega)) (newW_push w o _) rfl (hb _ _ rfl rfl (push_at _ _)) hr
theorem rangeF_sound (hW : WR C ρ H.get w) {t : TypeId} {x x' u : Value} (h : rangeF C.P H c t x = some (u, H', c')) (hx : VR C ρ x x') (hf : Fresh ρ c c') :
    ∃ v' ρ' w', (Instr.range t x').run C.P w = .ok v' w' ∧ Ext C ρ H.get c w ρ' H'.get c' w' ∧ VR C ρ' u v' := by
  unfold rangeF at h
  split at h
  · rename_i s hu
    obtain rfl := hx.string_inv
    obtain ⟨rfl, hc, pl, h1, h2, h3⟩ := newObj_ext (o := .stringIter s 0) hW h hf rfl fun pl w' p1 p2 p3 => ⟨pl, upd_same _ _ _, p2, by rw [p1]; exact p3⟩
    refine ⟨.pointer (some ⟨w.heap.size, 0, none⟩), _, _, ?_, h3, by rw [← h1]; exact new_ptr h2⟩
    unfold Instr.range
    simp only [Sem.run_bind, run_under hu, Result.andThen_ok, Sem.run_pure, run_newObj]
  · rename_i k e hu
    cases hx
    obtain ⟨rfl, hc, pl, h1, h2, h3⟩ := newObj_ext (o := .mapIter none 0 #[] 0) hW h hf rfl fun pl w' p1 p2 p3 => ⟨pl, none, upd_same _ _ _, p2, by rw [p1]; exact p3, rfl⟩
    refine ⟨.pointer (some ⟨w.heap.size, 0, none⟩), _, _, ?_, h3, by rw [← h1]; exact new_ptr h2⟩
    unfold Instr.range
    simp only [Sem.run_bind, run_under hu, Result.andThen_ok, Sem.run_pure, run_newObj]
  · rename_i k e m hu
    split at h
    · rename_i es clock hg
      obtain ⟨q, hq, rfl⟩ := hx.map_inv
      obtain ⟨q', es', g1, g2, g3⟩ := hW.br _ _ hg
      rw [hq] at g1; cases g1
      have hcc : ρ c = none := by
        unfold newBlk at h
        simp only [Tr.setK_eq, forceN_eq, Option.some.injEq, Prod.mk.injEq] at h
        exact hf c (Nat.le_refl _) (by omega)
      obtain ⟨rfl, hc, pl, h1, h2, h3⟩ := newObj_ext (o := .mapIter (some q.blk) clock #[] clock) hW h hf rfl fun pl w' p1 p2 p3 =>
        ⟨pl, some q.blk, upd_same _ _ _, p2, by rw [p1]; exact p3, q, upd_sub hcc _ _ hq, rfl⟩
      refine ⟨.pointer (some ⟨w.heap.size, 0, none⟩), _, _, ?_, h3, by rw [← h1]; exact new_ptr h2⟩
      unfold Instr.range
      simp only [Sem.run_bind, run_under hu, Result.andThen_ok, run_getObj (C := C) g2 (by simp), Sem.run_pure, run_newObj]
    · cases h
  · cases h
end
end
end Go.Proofs.YtgljampcnbgbhaaGreatDoor.Ev
namespace Go.Proofs.YtgljampcnbgbhaaGreatDoor.Ev
open Go Go.RowKit
noncomputable section

section
variable {C : Cx} {ρ ρ' : Ren} {H H' : Heap} {w : World} {c c' : Nat}
theorem memN_eq (n : Nat) : ∀ l : List Nat, memN n l = l.contains n
  | [] => rfl
  | m :: l => by
    simp only [memN, List.contains_cons, memN_eq n l]
    cases h : Nat.beq n m with
    | true => rw [(beq_iff _ _).1 h]; simp
    | false => have := (beq_false _ _).1 h; simp [this]
theorem ERs.leftB {seen : List Nat} {es es' : List MapEntry} (h : ERs C ρ es es') : ERs C ρ (leftB seen es) (es'.filter fun e => !seen.contains e.born) := by
  induction h with
  | nil => exact .nil
  | cons kk vv b t ih =>
    rename_i e e' l l'
    simp only [Ev.leftB, memN_eq, List.filter_cons, b]
    cases hm : seen.contains e.born with
    | true => simp only [Bool.not_true, Bool.false_eq_true, if_false]; exact ih
    | false => simp only [Bool.not_false, if_true]; exact .cons kk vv b ih
theorem allNew_eq {last : Nat} {es es' : List MapEntry} (h : ERs C ρ es es') : es'.all (fun e => decide (e.born ≥ last)) = allNew last es := by
  induction h with
  | nil => rfl
  | cons kk vv b t ih =>
    rename_i e e' l l'
    simp only [Ev.allNew, List.all_cons, b, ih]
    cases hq : Nat.ble last e.born with
    | true => have := (ble_iff _ _).1 hq; simp [this]
    | false => have := (ble_false _ _).1 hq; simp; omega
theorem choose_one {n : Nat} (h : n ≤ 1) : (choose (.mapNext n)).run C.P w = .ok 0 w := by
  rw [run_choose]
  simp [Question.forced, h]
theorem nextF_sound (hW : WR C ρ H.get w) {x x' u : Value} {isS : Bool} {ty : TypeId} (h : nextF H c x isS = some (u, H', c')) (hx : VR C ρ x x') :
    ∃ v' w', (Instr.next x' isS ty).run C.P w = .ok v' w' ∧ Ext C ρ H.get c w ρ H'.get c' w' ∧ VR C ρ u v' := by
  have over : VR C ρ (.tuple ⟨[.bool false]⟩) (.tuple #[.bool false]) := .tuple (.cons (.bool _) .nil)
  unfold nextF at h
  split at h
  · rename_i r
    obtain ⟨pl, _, hp, rfl⟩ := hx.ptr_inv
    split at h
    · -- a text
      rename_i s pos hg
      obtain ⟨q, g1, g0, g2⟩ := hW.br _ _ hg
      rw [hp] at g1; cases g1
      have hobj := run_getObj (C := C) g2 (by simp)
      split at h
      · rename_i hlt
        have hlt := (blt_iff _ _).1 hlt
        simp only [forceN_eq, forceI_eq, Tr.setK_eq, Option.some.injEq, Prod.mk.injEq] at h
        obtain ⟨rfl, rfl, rfl⟩ := h
        refine ⟨.tuple #[.bool true, .int .i64 (.ofNat pos), .int .i32 (Utf8.decode s pos).1], _, ?_, turn_obj hW (o' := .stringIter s (pos + (Utf8.decode s pos).2)) hg rfl hp g2 ?_ rfl, .tuple (.cons (.bool _) (.cons (.int _ _) (.cons (.int _ _) .nil)))⟩
        · unfold Instr.next
          simp only [g0, Sem.run_bind, hobj, Result.andThen_ok, if_pos hlt, run_setObj g2 (by simp : ∀ a b c, Obj.stringIter s pos ≠ .cells a b c), Sem.run_pure]
          rfl
        · exact ⟨pl, hp, g0, setObjW_at g2⟩
      · rename_i hlt
        have hlt := (blt_false _ _).1 hlt
        cases h
        refine ⟨_, w, ?_, Ext.refl hW, over⟩
        unfold Instr.next
        simp only [g0, Sem.run_bind, hobj, Result.andThen_ok, if_neg (Nat.not_lt.2 hlt), Sem.run_pure]
    · -- a nil map
      rename_i a b d hg
      cases h
      obtain ⟨q, m', g1, g0, g2, rfl⟩ := hW.br _ _ hg
      rw [hp] at g1; cases g1
      refine ⟨_, w, ?_, Ext.refl hW, over⟩
      unfold Instr.next
      simp only [g0, Sem.run_bind, run_getObj (C := C) g2 (by simp), Result.andThen_ok, Sem.run_pure]
    · -- a map
      rename_i m since seen last hg
      obtain ⟨q, m', g1, g0, g2, ⟨q2, g3, rfl⟩⟩ := hW.br _ _ hg
      rw [hp] at g1; cases g1
      split at h
      · rename_i es clock hm
        obtain ⟨q3, es', k1, k2, k3⟩ := hW.br _ _ hm
        rw [g3] at k1; cases k1
        have hobj := run_getObj (C := C) g2 (by simp)
        have hobj2 := run_getObj (C := C) k2 (by simp)
        have hall : es'.all (fun e => decide (e.born ≥ last)) = allNew last es := by rw [← Array.all_toList]; exact allNew_eq k3
        -- the test ahead of the look
        have go : (!(seen.toArray).isEmpty && !es'.isEmpty && es'.all (fun e => decide (e.born ≥ last))) = false → nextMap H c r m since seen es clock = some (u, H', c') →
            ∃ v' w', (Instr.next (.pointer (some ⟨pl.blk, pl.sh + 0, none⟩)) false ty).run C.P w = .ok v' w' ∧ Ext C ρ H.get c w ρ H'.get c' w' ∧ VR C ρ u v' := fun htest h => by
          have hleft := ERs.leftB (seen := seen) k3
          have hfl : (es'.filter fun e => !(seen.toArray).contains e.born).toList = es'.toList.filter fun e => !seen.contains e.born := by
            rw [Array.toList_filter]; congr; funext e; simp
          unfold nextMap at h
          split at h
          · rename_i hl
            cases h
            rw [hl] at hleft
            cases hleft' : es'.toList.filter (fun e => !seen.contains e.born) with
            | cons e l => rw [hleft'] at hleft; cases hleft
            | nil =>
              have hempty : (es'.filter fun e => !(seen.toArray).contains e.born) = #[] := by apply Array.ext'; rw [hfl, hleft']
              refine ⟨_, w, ?_, Ext.refl hW, over⟩
              unfold Instr.next
              simp only [g0, Sem.run_bind, hobj, hobj2, Result.andThen_ok, htest, Bool.false_eq_true, if_false, hempty, Sem.run_pure]
              simp [choose_one (C := C) (w := w) (Nat.le_refl 1)]
              intro hq; simp [Question.forced] at hq
          · rename_i e hl
            rw [hl] at hleft
            split at h
            · rename_i hb
              have hb := (blt_iff _ _).1 hb
              simp only [forceL_eq, Tr.setK_eq, Option.some.injEq, Prod.mk.injEq] at h
              obtain ⟨rfl, rfl, rfl⟩ := h
              cases hleft' : es'.toList.filter (fun e => !seen.contains e.born) with
              | nil => rw [hleft'] at hleft; cases hleft
              | cons e' l =>
                rw [hleft'] at hleft
                cases hleft with
                | cons kk vv bb t =>
                cases t
                have hone : (es'.filter fun e => !(seen.toArray).contains e.born) = #[e'] := by apply Array.ext'; rw [hfl, hleft']
                have hbo : e'.born < since := by rw [bb]; exact hb
                refine ⟨.tuple #[.bool true, e'.key, e'.val], _, ?_, turn_obj hW (o' := .mapIter (some q2.blk) since (seen.toArray.push e'.born) clock) hg rfl hp g2 ?_ rfl, .tuple (.cons (.bool _) (.cons kk (.cons vv .nil)))⟩
                · unfold Instr.next
                  simp only [g0, Sem.run_bind, hobj, hobj2, Result.andThen_ok, htest, Bool.false_eq_true, if_false, hone, Sem.run_pure]
                  have hf1 : (#[e'] : Array MapEntry).filter (fun x => decide (x.born < since)) = #[e'] := by simp [hbo]
                  have hf2 : (#[e'] : Array MapEntry).filter (fun x => decide (x.born ≥ since)) = #[] := by simp; omega
                  rw [hf1, hf2]
                  simp [choose_one (C := C) (w := w) (Nat.le_refl 1), run_setObj g2 (by simp : ∀ a b c, Obj.mapIter (some q2.blk) since seen.toArray last ≠ .cells a b c)]
                  intro hq; simp [Question.forced] at hq
                · refine ⟨pl, some q2.blk, hp, g0, ?_, q2, g3, rfl⟩
                  rw [setObjW_at g2]; rw [bb]; simp
            · cases h
          · cases h
        split at h
        · rename_i s0 sl e0 el
          split at h
          · cases h
          · rename_i hnew
            exact go (by rw [hall, hnew]; simp) h
        · rename_i hne
          refine go ?_ h
          cases seen with
          | nil => simp
          | cons s sl =>
            cases es with
            | nil => have := isEmpty_of_ERs k3; simp at this; simp [this]
            | cons e0 el => exact (hne s sl e0 el rfl rfl).elim
      · cases h
    · cases h
  · cases h
end
end
end Go.Proofs.YtgljampcnbgbhaaGreatDoor.Ev
namespace Go.Proofs.YtgljampcnbgbhaaGreatDoor.Ev
open Go Go.RowKit
noncomputable section

section
variable {C : Cx} {ρ ρ' : Ren} {H H' : Heap} {w : World} {c c' : Nat}
/-- A block known no more, and known anew where it lies. -/
theorem Ext.move {H : Hf} {w' : World} {x : Nat} {k y : Blk} {pl np : Pl} (hW : WR C ρ H w) (hb : H x = some k) (hr : roB k = false) (hp : ρ x = some pl) (hc : ρ c = none) (hblk : np.blk = pl.blk)
    (hsize : w'.heap.size = w.heap.size) (hold : ∀ i, i ≠ pl.blk → w'.heap[i]? = w.heap[i]?) (hos : w'.os = w.os) (htape : w'.tape = w.tape) (hout : w'.output = w.output)
    (hy : BR C (upd ρ c np) w' c y) (hry : roB y = false) : Ext C ρ H c w (upd ρ c np) (setH (setH H x none) c (some y)) (c + 1) w' where
  le := by omega
  ren z hz := upd_ne (by omega)
  size := by omega
  old i hi ho := hold i fun e => ho ⟨x, k, pl, hb, hr, hp, e.symm⟩
  own i hi := fun ⟨z, k2, q, h1, h2, h3, h4⟩ => by
    unfold setH at h1
    by_cases e : z = c
    · subst e; rw [upd_same] at h3; cases h3; exact ⟨x, k, pl, hb, hr, hp, hblk ▸ h4⟩
    · rw [if_neg e] at h1; rw [upd_ne e] at h3
      by_cases e2 : z = x
      · rw [if_pos e2] at h1; cases h1
      · rw [if_neg e2] at h1; exact ⟨z, k2, q, h1, h2, h3, h4⟩
  dom z k2 hz := by
    unfold setH at hz
    by_cases e : z = c
    · right; omega
    · rw [if_neg e] at hz
      by_cases e2 : z = x
      · rw [if_pos e2] at hz; cases hz
      · rw [if_neg e2] at hz; exact .inl ⟨k2, hz⟩
  newRo z k2 hz hcz := by
    have : z = c := by omega
    subst this
    unfold setH at hz; rw [if_pos rfl] at hz; cases hz; exact hry
  ro z k2 k3 h2 h3 := by
    have hne : z ≠ c := by rintro rfl; obtain ⟨q, hq, _⟩ := (hW.br _ _ h2).place; rw [hc] at hq; cases hq
    unfold setH at h3; rw [if_neg hne] at h3
    by_cases e2 : z = x
    · rw [if_pos e2] at h3; cases h3
    · rw [if_neg e2, h2] at h3; cases h3; rfl
  wr := by
    have apart : ∀ z k2 q, H z = some k2 → z ≠ x → ρ z = some q → q.blk ≠ pl.blk := fun z k2 q hz hne hq e => hne (hW.inj z x k2 k q pl hz hb (.inr hr) hq hp e)
    refine ⟨fun z k2 hz => ?_, fun z z' k2 k3 p q hz hz' hor hp' hq e => ?_⟩
    · unfold setH at hz
      by_cases e : z = c
      · subst e; rw [if_pos rfl] at hz; cases hz; exact hy
      · rw [if_neg e] at hz
        by_cases e2 : z = x
        · rw [if_pos e2] at hz; cases hz
        · rw [if_neg e2] at hz
          exact (hW.br z k2 hz).keep (upd_sub hc) fun q hq => hold _ (apart z k2 q hz e2 hq)
    · unfold setH at hz hz'
      by_cases e1 : z = c <;> by_cases e2 : z' = c
      · rw [e1, e2]
      · subst e1; rw [upd_same] at hp'; cases hp'; rw [if_neg e2] at hz'; rw [upd_ne e2] at hq
        by_cases e3 : z' = x
        · rw [if_pos e3] at hz'; cases hz'
        · rw [if_neg e3] at hz'; exact (apart z' k3 q hz' e3 hq (e.symm.trans hblk)).elim
      · subst e2; rw [upd_same] at hq; cases hq; rw [if_neg e1] at hz; rw [upd_ne e1] at hp'
        by_cases e3 : z = x
        · rw [if_pos e3] at hz; cases hz
        · rw [if_neg e3] at hz; exact (apart z k2 p hz e3 hp' (e.trans hblk)).elim
      · rw [if_neg e1] at hz; rw [if_neg e2] at hz'; rw [upd_ne e1] at hp'; rw [upd_ne e2] at hq
        by_cases e3 : z = x
        · rw [if_pos e3] at hz; cases hz
        · by_cases e4 : z' = x
          · rw [if_pos e4] at hz'; cases hz'
          · rw [if_neg e3] at hz; rw [if_neg e4] at hz'; exact hW.inj z z' k2 k3 p q hz hz' hor hp' hq e
  os := hos
  tape := htape
  output := hout

/-- What is appended or copied: the cells' run. -/
theorem srcCells_sound (hW : WR C ρ H.get w) {sz n m : Nat} {x x' : Value} {cs : List Value} (h : srcCells H sz n x = some cs) (hx : VR C ρ x x') (hl : lenV x = some m) (hn : n ≤ m) :
    ∃ cs', VRs C ρ cs cs' ∧ cs'.length = n * sz ∧ ∀ w' : World, w'.heap = w.heap → (Builtin.firstCells sz n x').run C.P w' = .ok cs'.toArray w' := by
  unfold srcCells at h
  split at h
  · rename_i a l cap
    simp [lenV] at hl; subst hl
    cases h0b : Nat.beq n 0
    case true =>
      simp only [h0b] at h
      cases h
      have h0 := (beq_iff _ _).1 h0b
      subst h0
      obtain ⟨b', c', rfl, hb⟩ := hx.slice_len
      obtain ⟨z, rfl⟩ := Option.isSome_iff_exists.1 hb.symm
      exact ⟨[], .nil, by simp, fun w' _ => by simp [Builtin.firstCells, loadCells, loadCellsFrom]⟩
    case false =>
      have h0 := (beq_false _ _).1 h0b
      obtain ⟨pl, c', hsp, hp, rfl⟩ := hx.slice_pos (by omega)
      simp only [h0b, hsp] at h
      split at h
      · rename_i ro el nn t hblk
        simp only [forceN_eq] at h
        obtain ⟨cs', h1, h2, h3⟩ := hW.cells hblk hp h
        refine ⟨cs', h1, h2, fun w' hw' => ?_⟩
        have hcell : ∀ ad, w'.cell? ad = w.cell? ad := fun ad => by simp [World.cell?, hw']
        show (loadCells _ (n * sz)).run C.P w' = _
        rw [← h2]
        exact run_loadCells_list (P := C.P) w' _ cs' fun j v hj => by rw [hcell]; exact h3 j v hj
      · cases h
  · split at h
    · rename_i h0
      cases h
      have h0 := (beq_iff _ _).1 h0
      subst h0
      obtain ⟨rfl, _⟩ := hx.slNil_inv
      exact ⟨[], .nil, by simp, fun w' _ => by simp [Builtin.firstCells]⟩
    · cases h
  · rename_i bs
    simp [lenV] at hl; subst hl
    split at h
    · rename_i h1
      have h1 := (beq_iff _ _).1 h1
      subst h1
      simp only [takeL_eq, forceL_eq, Option.some.injEq] at h
      subst h
      obtain rfl := hx.string_inv
      refine ⟨(bs.take n).map fun b => Value.int .u8 b.toNat, ?_, by simp; omega, fun w' _ => ?_⟩
      · refine VRs.of_get rfl fun i v hv => ⟨v, hv, ?_⟩
        obtain ⟨b, _, rfl⟩ := List.mem_map.1 (List.mem_of_getElem? hv)
        exact .int _ _
      · simp only [Builtin.firstCells, Sem.run_pure]
        congr 1
        apply Array.ext'
        simp
    · cases h
  · cases h
theorem srcOk_kind {tx : TypeId} (h : srcOk C.P tx = true) : (∃ e', C.P.underlying tx = some (.slice e')) ∨ C.P.underlying tx = some .string := by
  unfold srcOk at h
  split at h
  · rename_i e' hu; exact .inl ⟨e', hu⟩
  · rename_i hu; exact .inr hu
  · cases h
theorem lenV_run {x x' : Value} {n : Nat} (h : lenV x = some n) (hx : VR C ρ x x') (w' : World) : (Builtin.lenOf x').run C.P w' = .ok n w' := by
  unfold lenV at h
  split at h
  · cases h
    obtain ⟨b', c', rfl, _⟩ := hx.slice_len
    rfl
  · simp at h; subst h
    obtain rfl := hx.string_inv
    rfl
  · cases h
theorem drew_heap (w : World) : w.drew.heap = w.heap := rfl
theorem srcOf (hD : C.D.oneCell' = true) (hW : WR C ρ H.get w) {sz n : Nat} {tx : TypeId} {x x' : Value} {cs : List Value} (hk : srcOk C.P tx = true) (hl : lenV x = some n) (h : srcCells H sz n x = some cs) (hx : VR C ρ x x')
    (h1 : cs.all oneB = true) : ∃ cs', VRs C ρ cs cs' ∧ Src C.P sz tx x' n cs' w := by
  obtain ⟨cs', k1, k2, k3⟩ := srcCells_sound hW h hx hl (Nat.le_refl _)
  exact ⟨cs', k1, srcOk_kind hk, fun w' => lenV_run hl hx w', k3 w rfl, k3 w.drew rfl, k2, ones_of hD k1 (by simpa using h1)⟩
/-- A row in new memory. -/
theorem growF_sound (hW : WR C ρ H.get w) {G : Heap} {t tx ty e : TypeId} {i : TypeInfo} {z : Value} {sz bytes len cap n need : Nat} {base : Option Addr} {old cs old' cs' : List Value} {x' u : Value}
    (hG : ∀ b k, G.get b = some k → H.get b = some k) (ht : C.P.underlying t = some (.slice e)) (hi : C.P.info? e = some i) (hz : i.zero = some z) (his : i.size = sz) (hpos : 0 < sz) (hzs : z.cells.size = sz) (hby : i.bytes ≤ 4096)
    (hneed : need = len + n) (hle : need ≤ 1048576) (hcap : cap < need) (hs : Src C.P sz tx x' n cs' w)
    (hold : (Builtin.firstCells sz len (.slice base len cap)).run C.P w.drew = .ok old'.toArray w.drew) (hol : old'.length = len * sz)
    (ho : VRs C ρ old old') (hc : VRs C ρ cs cs') (h : growF G c e sz old cs need = some (u, H', c')) (hf : Fresh ρ c c') :
    ∃ v' ρ' w', (Builtin.append_ #[t, tx] ty #[.slice base len cap, x']).run C.P w = .ok v' w' ∧ Ext C ρ H.get c w ρ' H'.get c' w' ∧ VR C ρ' u v' := by
  unfold growF at h
  simp only [bind, Option.bind_eq_some_iff, forceL_eq, forceN_eq] at h
  obtain ⟨b, hb, h⟩ := h
  unfold newBlk at h
  simp only [Tr.setK_eq, forceN_eq, Option.some.injEq, Prod.mk.injEq] at h
  obtain ⟨rfl, rfl, rfl⟩ := h
  have hfc : ρ c = none := hf c (Nat.le_refl _) (by omega)
  have hbytes : Builtin.nextslicecap (len + n) cap * i.bytes ≤ 281474976710656 := by
    have h1 := nextslicecap_le (need := len + n) (old := cap) (by omega)
    have h2 : Builtin.nextslicecap (len + n) cap * i.bytes ≤ (2 * 1048576) * 4096 := Nat.mul_le_mul (by omega) hby
    omega
  subst his
  have hrun := run_append_grow_src (P := C.P) w t tx ty e i z ht hi hz base len cap old' hold x' n cs' hs (by omega) (by omega) hbytes
  have hge := grownCap_ge w (len + n) cap e
  have hzl : (Builtin.zeroCells z.cells (grownCap w (len + n) cap e - (len + n))).size = (grownCap w (len + n) cap e - (len + n)) * i.size := by
    unfold Builtin.zeroCells; simp [hzs]
  have hsize : ((old' ++ cs').toArray ++ Builtin.zeroCells z.cells (grownCap w (len + n) cap e - (len + n))).size = grownCap w (len + n) cap e * i.size := by
    rw [Array.size_append, hzl, List.size_toArray, List.length_append, hol, hs.newsLen, ← Nat.add_mul, ← Nat.add_mul, Nat.add_sub_cancel' hge]
  have hat : (w.drew.alloc (.cells ((old' ++ cs').toArray ++ Builtin.zeroCells z.cells (grownCap w (len + n) cap e - (len + n))) e)).heap[w.heap.size]? =
      some (.cells ((old' ++ cs').toArray ++ Builtin.zeroCells z.cells (grownCap w (len + n) cap e - (len + n))) e (0, 0)) := push_at w _
  have hbr := newCells_br (C := C) (ρ := upd ρ c ⟨w.heap.size, 0, i.size, grownCap w (len + n) cap e * i.size⟩)
    (w' := w.drew.alloc (.cells ((old' ++ cs').toArray ++ Builtin.zeroCells z.cells (grownCap w (len + n) cap e - (len + n))) e)) (c := c) hb (upd_same _ _ _) rfl
    hat (open_zero _) (by rw [hsize]; exact Nat.le_refl _)
    (fun j v hj => by
      have hlen := (VRs.append hc ho).length
      have hjl : j < (old' ++ cs').length := by rw [hlen]; exact (List.getElem?_eq_some_iff.1 hj).1
      rw [Array.getElem?_append_left (by simpa using hjl), List.getElem?_toArray]
      obtain ⟨v', k1, k2⟩ := (VRs.append hc ho).get j v hj
      exact ⟨v', k1, k2.mono (upd_sub hfc)⟩)
    ⟨hpos, by show i.size = C.P.cellsOf e; unfold Program.cellsOf; rw [hi]; rfl, by
      show (old ++ cs).length ≤ grownCap w (len + n) cap e * i.size
      rw [← (VRs.append hc ho).length, List.length_append, hol, hs.newsLen, ← Nat.add_mul]
      exact Nat.mul_le_mul_right _ hge⟩
  have hext := Ext.new (C := C) (H := H.get) hW hfc (newW_push w (.cells ((old' ++ cs').toArray ++ Builtin.zeroCells z.cells (grownCap w (len + n) cap e - (len + n))) e) w.drew.drawn) rfl hbr.1 hbr.2
  refine ⟨_, upd ρ c ⟨w.heap.size, 0, i.size, grownCap w (len + n) cap e * i.size⟩, _, hrun, ?_, ?_⟩
  · refine (Ext.less (H'' := (G.set c (some b)).get) hext fun y k hy => ?_)
    rw [Tr.get_set] at hy
    unfold setH
    split at hy
    · rename_i e; rw [if_pos e]; exact hy
    · rename_i e; rw [if_neg e]; exact hG y k hy
  · subst hneed
    exact VR.slU (C := C) (o := 0) (len + n) (grownCap w (len + n) cap e) (upd_same ρ c ⟨w.heap.size, 0, i.size, grownCap w (len + n) cap e * i.size⟩) hge (by simp)
/-- Room behind the length, in a row that is known there or grows: the run. -/
theorem room_run (hD : C.D.oneCell' = true) (hW : WR C ρ H.get w) {t tx ty e : TypeId} {i : TypeInfo} {sz len cap n : Nat} {cs' : List Value} {x' : Value} {b o : Nat}
    (ht : C.P.underlying t = some (.slice e)) (hi : C.P.info? e = some i) (his : i.size = sz) (hs : Src C.P sz tx x' n cs' w) (hroom : len + n ≤ cap)
    (hc : ∀ j, j < cs'.length → (w.cell? ⟨b, o + len * sz + j, none⟩).isSome = true) (hf : ∀ j, j < cs'.length → w.frozen? ⟨b, o + len * sz + j, none⟩ = false) :
    (Builtin.append_ #[t, tx] ty #[.slice (some ⟨b, o, none⟩) len cap, x']).run C.P w = .ok (.slice (some ⟨b, o, none⟩) (len + n) cap) (w.setCells b (o + len * sz) cs') := by
  subst his
  exact run_append_room_src (P := C.P) w t tx ty e i ht hi b o len cap x' n cs' hs hroom hc hf
theorem fitF_sound (hD : C.D.oneCell' = true) (hW : WR C ρ H.get w) {t tx ty e : TypeId} {i : TypeInfo} {sz len cap cap' n need : Nat} {a : Addr} {pl : Pl} {cs cs' : List Value} {x' u : Value}
    (ht : C.P.underlying t = some (.slice e)) (hi : C.P.info? e = some i) (his : i.size = sz) (hs : Src C.P sz tx x' n cs' w) (hc : VRs C ρ cs cs') (hp : ρ a.block = some pl) (hneed : need = len + n) (hroom : need ≤ cap')
    (h : fitF H c sz a len need cap cs = some (u, H', c')) :
    u = .slice (some a) need cap ∧ ∃ w', (Builtin.append_ #[t, tx] ty #[.slice (some ⟨pl.blk, pl.sh + a.off, none⟩) len cap', x']).run C.P w = .ok (.slice (some ⟨pl.blk, pl.sh + a.off, none⟩) need cap') w' ∧
      Ext C ρ H.get c w ρ H'.get c' w' := by
  unfold fitF at h
  obtain ⟨H2, h1, _, h3, h4, h5, h6⟩ := stCells_sound (c := c) hD hW h hc hp
  simp only [Option.some.injEq, Prod.mk.injEq] at h1
  obtain ⟨rfl, rfl, rfl⟩ := h1
  simp only [← Nat.add_assoc] at h3 h4 h6
  subst hneed
  exact ⟨rfl, _, room_run hD hW ht hi his hs hroom h3 h4, h6⟩
/-- Room that is not known: the row is known anew. -/
theorem moveF_sound (hD : C.D.oneCell' = true) (hW : WR C ρ H.get w) {t tx ty e : TypeId} {i : TypeInfo} {sz len cap' n need : Nat} {a : Addr} {pl : Pl} {old cs cs' : List Value} {x' u : Value} {tr : Tr Value}
    (ht : C.P.underlying t = some (.slice e)) (hi : C.P.info? e = some i) (his : i.size = sz) (hpos : 0 < sz) (hs : Src C.P sz tx x' n cs' w) (hc : VRs C ρ cs cs') (hp : ρ a.block = some pl) (hneed : need = len + n) (hroom : need ≤ cap')
    (hblk : H.get a.block = some (.cells false e none tr)) (hfin : a.off + cap' * sz = pl.fin) (hold : ∀ (j : Nat) v, old[j]? = some v → tr.get (a.off + j) = some v) (hol : old.length = len * sz)
    (h : growF (H.set a.block none) c e sz old cs need = some (u, H', c')) (hf : Fresh ρ c c') :
    ∃ v' ρ' w', (Builtin.append_ #[t, tx] ty #[.slice (some ⟨pl.blk, pl.sh + a.off, none⟩) len cap', x']).run C.P w = .ok v' w' ∧ Ext C ρ H.get c w ρ' H'.get c' w' ∧ VR C ρ' u v' := by
  obtain ⟨q, cc, fz, g1, g2, g3, g4, g5, g6, g7, g8⟩ := hW.br _ _ hblk
  rw [hp] at g1; cases g1
  have e1 : (len + n) * sz = len * sz + n * sz := Nat.add_mul _ _ _
  have e2 : (len + n) * sz ≤ cap' * sz := Nat.mul_le_mul_right _ (by omega)
  have hnl := hs.newsLen
  obtain ⟨s1, s2, s3, s4, s5, s6⟩ := setCells_shape pl.blk cs' (pl.sh + a.off + len * sz) w
  obtain ⟨c2, k1, k2, k3⟩ := s6 cc e fz g2
  have hfit : pl.sh + a.off + len * sz + cs'.length ≤ cc.size := by omega
  have hrun := room_run (ty := ty) (cap := cap') (len := len) (b := pl.blk) (o := pl.sh + a.off) hD hW ht hi his hs (by omega)
    (fun j hj => by simp [World.cell?, g2]; omega)
    (fun j hj => by
      have hop := g5 (pl.sh + a.off + len * sz + j) (by omega)
      simp only [World.frozen?, g2]
      rw [Bool.and_eq_false_iff]
      by_cases hq : fz.1 ≤ pl.sh + a.off + len * sz + j
      · right; simp; omega
      · left; simp; omega)
  unfold growF at h
  simp only [bind, Option.bind_eq_some_iff, forceL_eq, forceN_eq] at h
  obtain ⟨b, hb, h⟩ := h
  unfold newBlk at h
  simp only [Tr.setK_eq, forceN_eq, Option.some.injEq, Prod.mk.injEq] at h
  obtain ⟨rfl, rfl, rfl⟩ := h
  have hfc : ρ c = none := hf c (Nat.le_refl _) (by omega)
  unfold mkBlk at hb
  rw [Tr.ofList_eq] at hb
  cases hb
  have hcl := hc.length
  have hbr : BR C (upd ρ c ⟨pl.blk, pl.sh + a.off, sz, cap' * sz⟩) (w.setCells pl.blk (pl.sh + a.off + len * sz) cs') c (.cells false e none (Tr.mk (old ++ cs))) := by
    refine ⟨_, c2, fz, upd_same _ _ _, k1, by show pl.sh + a.off + cap' * sz ≤ _; omega, fun o v ho => ?_, fun o ho => g5 o (by omega), hpos, ?_, fun o v ho => ?_⟩
    · rw [Tr.get_mk] at ho
      show ∃ v', c2[pl.sh + a.off + o]? = some v' ∧ _
      rw [k3 hfit]
      by_cases hlt : o < old.length
      · rw [List.getElem?_append_left hlt] at ho
        rw [if_neg (by omega), Nat.add_assoc]
        obtain ⟨v', q1, q2⟩ := g4 _ _ (hold o v ho)
        exact ⟨v', q1, q2.mono (upd_sub hfc)⟩
      · rw [List.getElem?_append_right (by omega)] at ho
        have hlt2 := (List.getElem?_eq_some_iff.1 ho).1
        rw [if_pos (by omega), show pl.sh + a.off + o - (pl.sh + a.off + len * sz) = o - old.length by omega]
        obtain ⟨v', q1, q2⟩ := hc.get _ _ ho
        exact ⟨v', q1, q2.mono (upd_sub hfc)⟩
    · show sz = C.P.cellsOf e
      unfold Program.cellsOf; rw [hi]; exact his.symm
    · rw [Tr.get_mk] at ho
      have hlt := (List.getElem?_eq_some_iff.1 ho).1
      rw [List.length_append] at hlt
      show o < cap' * sz
      omega
  refine ⟨_, upd ρ c ⟨pl.blk, pl.sh + a.off, sz, cap' * sz⟩, _, hrun, ?_, ?_⟩
  · have := Ext.move (c := c) hW hblk rfl hp hfc (np := ⟨pl.blk, pl.sh + a.off, sz, cap' * sz⟩) rfl s1 s5 s2 s3 s4 hbr rfl
    rw [get_setH, get_setH]
    exact this
  · subst hneed
    exact VR.slU (C := C) (o := 0) (len + n) cap' (upd_same ρ c ⟨pl.blk, pl.sh + a.off, sz, cap' * sz⟩) hroom (by simp)
theorem firstCells_zero {sz : Nat} {x : Value} {w' : World} (hx : (∃ a l cp, x = .slice a l cp) ∨ ∃ s, x = .string s) : (Builtin.firstCells sz 0 x).run C.P w' = .ok #[] w' := by
  rcases hx with ⟨a, l, cp, rfl⟩ | ⟨s, rfl⟩
  · cases a with
    | none => simp [Builtin.firstCells]
    | some a => simp [Builtin.firstCells, loadCells, loadCellsFrom]
  · simp [Builtin.firstCells]
theorem appendF_sound (hD : C.D.oneCell' = true) (hW : WR C ρ H.get w) {ts : List TypeId} {ty : TypeId} {s s' x x' u : Value} (h : appendF C.P H c ts s x = some (u, H', c')) (hs : VR C ρ s s') (hx : VR C ρ x x') (hf : Fresh ρ c c') :
    ∃ v' ρ' w', (Builtin.append_ ts.toArray ty #[s', x']).run C.P w = .ok v' w' ∧ Ext C ρ H.get c w ρ' H'.get c' w' ∧ VR C ρ' u v' := by
  unfold appendF at h
  split at h
  · rename_i t tx
    split at h
    · rename_i e base len cap n ht hk hl
      simp only [bind, Option.bind_eq_some_iff] at h
      obtain ⟨sz, hsz, z, hz, h⟩ := h
      obtain ⟨i, hi, his, hpos, _⟩ := szB_some hsz
      obtain ⟨i2, hi2, hiz, _⟩ := zeroB_some hz
      rw [hi] at hi2; cases hi2
      have hkind := srcOk_kind hk
      have hxk : (∃ a l cp, x' = .slice a l cp) ∨ ∃ s, x' = .string s := by
        unfold lenV at hl
        split at hl
        · obtain ⟨b', c', rfl, _⟩ := hx.slice_len; exact .inl ⟨_, _, _, rfl⟩
        · obtain rfl := hx.string_inv; exact .inr ⟨_, rfl⟩
        · cases hl
      -- nothing is appended
      cases hn0 : Nat.beq n 0 with
      | true =>
        have hn0' := (beq_iff _ _).1 hn0
        subst hn0'
        simp only [hn0] at h
        cases h
        have hsle : ∃ b' l' c2, s' = .slice b' l' c2 ∧ l' ≤ c2 := by
          cases hs with
          | slNil l cp hl => exact ⟨_, _, _, rfl, hl⟩
          | sl l cp h hl hc => exact ⟨_, _, _, rfl, hl⟩
          | slU l cp h hl hc => exact ⟨_, _, _, rfl, hl⟩
          | slE a cp h hc => exact ⟨_, _, _, rfl, Nat.zero_le _⟩
        obtain ⟨b', l', c2, rfl, hle⟩ := hsle
        have hsrc : Src C.P i.size tx x' 0 [] w := ⟨hkind, fun w' => lenV_run hl hx w', firstCells_zero hxk, firstCells_zero hxk, by simp, fun v hv => by cases hv⟩
        exact ⟨_, ρ, w, run_append_nothing (P := C.P) w t tx ty e i ht hi b' l' c2 hle x' hsrc, Ext.refl hW, hs⟩
      | false =>
        simp only [hn0] at h
        split at h
        · rename_i hh; cases hh
        · cases h
        · rename_i hcond
          simp only [Bool.and_eq_true, ble_iff, beq_iff, lenL_eq] at hcond
          simp only [forceN_eq, Option.bind_eq_some_iff] at h
          obtain ⟨cs, hcs, h⟩ := h
          have hn0' := (beq_false _ _).1 hn0
          have hby : i.bytes ≤ 4096 := by have := hcond.1; rw [hi] at this; simpa using this
          have hzs : z.cells.size = sz := by rw [← Array.length_toList, cells_list]; exact hcond.2.2
          split at h
          · cases h
          · rename_i hone
            obtain ⟨cs', hc', hsrc⟩ := srcOf hD hW hk hl hcs hx hone
            split at h
            · -- nil
              split at h
              · rename_i hq
                simp only [Bool.and_eq_true, beq_iff] at hq
                obtain ⟨rfl, rfl⟩ := hq
                obtain ⟨rfl, _⟩ := hs.slNil_inv
                exact growF_sound (bytes := 0) (old' := []) hW (fun b k hb => hb) ht hi hiz his hpos hzs hby rfl hcond.2.1 (by omega) hsrc (firstCells_zero (.inl ⟨_, _, _, rfl⟩)) (by simp) .nil hc' h hf
              · cases h
            · rename_i a
              obtain ⟨pl, hspot, hp, h3⟩ := hs.slice_inv
              -- the elder cells
              have olds : ∀ {old : List Value} {s2 : Value}, srcCells H sz len (.slice (some a) len cap) = some old → VR C ρ (.slice (some a) len cap) s2 → ∃ old', VRs C ρ old old' ∧ old'.length = len * sz ∧ (Builtin.firstCells sz len s2).run C.P w.drew = .ok old'.toArray w.drew := fun {old s2} hold r => by
                obtain ⟨old', o1, o2, o3⟩ := srcCells_sound (m := len) hW hold r rfl (Nat.le_refl _)
                exact ⟨old', o1, o2, o3 w.drew rfl⟩
              split at h
              · -- room, known
                rename_i hb1 hb2
                have hb1 := (ble_false _ _).1 hb1
                have hb2 := (ble_iff _ _).1 hb2
                rcases h3 with ⟨h3, h4, rfl⟩ | ⟨h3, _⟩ | ⟨h3, _⟩
                · obtain ⟨rfl, w', r1, r2⟩ := fitF_sound (ty := ty) hD hW ht hi his hsrc hc' hp rfl hb2 h
                  obtain ⟨ab, ao, as_⟩ := a
                  simp only at hspot hp; subst hspot
                  exact ⟨_, ρ, w', r1, r2, .sl _ _ hp hb2 h3⟩
                · have := capU_ge pl.sz; omega
                · have := capE_ge pl.sz; omega
              · -- no room
                rename_i hb1 hb2
                have hb1 := (ble_false _ _).1 hb1
                have hb2 := (ble_false _ _).1 hb2
                simp only [Option.bind_eq_some_iff] at h
                obtain ⟨old, hold, h⟩ := h
                rcases h3 with ⟨h3, h4, rfl⟩ | ⟨h3, _⟩ | ⟨h3, _⟩
                · obtain ⟨old', o1, o2, o3⟩ := olds hold hs
                  exact growF_sound (bytes := 0) hW (fun b k hb => hb) ht hi hiz his hpos hzs hby rfl hcond.2.1 hb2 hsrc o3 o2 o1 hc' h hf
                · have := capU_ge pl.sz; omega
                · have := capE_ge pl.sz; omega
              · -- not known
                rename_i hb1
                have hb1 := (ble_iff _ _).1 hb1
                split at h
                · rename_i el tr hblk
                  have hg := blkOf_some hblk
                  simp only at hg
                  have killed : ∀ b k, (H.set a.block none).get b = some k → H.get b = some k := fun b k hb => by
                    rw [Tr.get_set] at hb
                    split at hb
                    · cases hb
                    · exact hb
                  split at h
                  · rename_i hel hU
                    have hel := (beq_iff _ _).1 hel
                    have hU := (beq_iff _ _).1 hU
                    subst hel
                    rcases h3 with ⟨h3, _⟩ | ⟨h3, cp, h4, h5, rfl⟩ | ⟨h3, _⟩
                    · omega
                    · have hpz : pl.sz = sz := capU_inj (h3.symm.trans hU)
                      rw [hpz] at h5
                      split at h
                      · -- cells are known as far
                        rename_i y hy
                        obtain ⟨q, cc, fz, g1, g2, g3, g4, g5, g6, g7, g8⟩ := hW.br _ _ hg
                        rw [hp] at g1; cases g1
                        have hlt := g8 _ _ hy
                        have hroom : len + n ≤ cp := by
                          rcases Nat.lt_or_ge cp (len + n) with hgt | hle
                          · exfalso
                            have h1 : (cp + 1) * sz ≤ (len + n) * sz := Nat.mul_le_mul_right _ hgt
                            rw [Nat.succ_mul] at h1
                            omega
                          · exact hle
                        obtain ⟨rfl, w', r1, r2⟩ := fitF_sound (ty := ty) hD hW ht hi his hsrc hc' hp rfl hroom h
                        obtain ⟨ab, ao, as_⟩ := a
                        simp only at hspot hp; subst hspot
                        refine ⟨_, ρ, w', r1, r2, ?_⟩
                        rw [h3]
                        exact .slU _ _ hp hroom (by rw [hpz]; exact h5)
                      · -- room or not
                        simp only [Option.bind_eq_some_iff, Tr.setK_eq] at h
                        obtain ⟨old, hold, h⟩ := h
                        obtain ⟨old', o1, o2, o3⟩ := olds hold hs
                        by_cases hroom : len + n ≤ cp
                        · refine moveF_sound hD hW ht hi his hpos hsrc hc' hp rfl hroom hg h5 (fun j v hj => ?_) (by rw [← o1.length]; exact o2) h hf
                          unfold srcCells at hold
                          cases h0b : Nat.beq len 0 with
                          | true =>
                            simp only [h0b] at hold; cases hold; simp at hj
                          | false =>
                            simp only [h0b, hspot, hblk, forceN_eq] at hold
                            obtain ⟨q1, q2⟩ := cellsAt_some hold
                            have hjl := (List.getElem?_eq_some_iff.1 hj).1
                            rw [q2 j (by omega), hj]
                        · exact growF_sound (bytes := 0) hW killed ht hi hiz his hpos hzs hby rfl hcond.2.1 (by omega) hsrc o3 o2 o1 hc' h hf
                    · rw [hU] at h3; exact (capU_ne h3).elim
                  · rename_i hel hU hE
                    have hel := (beq_iff _ _).1 hel
                    simp only [Bool.and_eq_true, beq_iff] at hE
                    subst hel
                    obtain ⟨hE, rfl⟩ := hE
                    simp only [Tr.setK_eq] at h
                    rcases h3 with ⟨h3, _⟩ | ⟨h3, _⟩ | ⟨h3, _, b, cp, h4, rfl⟩
                    · omega
                    · rw [hE] at h3; exact (capU_ne h3.symm).elim
                    · have hpz : pl.sz = sz := capE_inj (h3.symm.trans hE)
                      by_cases hroom : 0 + n ≤ cp
                      · rcases h4 with rfl | ⟨rfl, h5⟩
                        · omega
                        · rw [hpz] at h5
                          exact moveF_sound hD hW ht hi his hpos hsrc hc' hp rfl hroom hg h5 (fun j v hj => by simp at hj) (by simp) h hf
                      · exact growF_sound (bytes := 0) (old' := []) hW killed ht hi hiz his hpos hzs hby rfl hcond.2.1 (by omega) hsrc (firstCells_zero (.inl ⟨_, _, _, rfl⟩)) (by simp) .nil hc' h hf
                  · cases h
                · cases h
    · cases h
  · cases h
end
end
end Go.Proofs.YtgljampcnbgbhaaGreatDoor.Ev
namespace Go.Proofs.YtgljampcnbgbhaaGreatDoor.Ev
open Go Go.RowKit
noncomputable section

section
variable {C : Cx} {ρ ρ' : Ren} {H H' : Heap} {w : World} {c c' : Nat}
theorem copyF_sound (hD : C.D.oneCell' = true) (hW : WR C ρ H.get w) {ts : List TypeId} {ty : TypeId} {d d' x x' u : Value} (h : copyF C.P H c ts d x = some (u, H', c')) (hd : VR C ρ d d') (hx : VR C ρ x x') :
    ∃ v' w', (Builtin.copy_ ts.toArray ty #[d', x']).run C.P w = .ok v' w' ∧ Ext C ρ H.get c w ρ H'.get c' w' ∧ VR C ρ u v' := by
  unfold copyF at h
  split at h
  · rename_i t ts
    have ht0 : ((t :: ts : List TypeId).toArray)[0]? = some t := rfl
    have h0 : (#[d', x'] : Array Value)[0]? = some d' := rfl
    have h1 : (#[d', x'] : Array Value)[1]? = some x' := rfl
    split at h
    · rename_i e base len cap n hu hl
      simp only [bind, Option.bind_eq_some_iff, forceN_eq] at h
      obtain ⟨sz, hsz, h⟩ := h
      obtain ⟨i, hi, his, hpos, _⟩ := szB_some hsz
      obtain ⟨b', c2, rfl, hbs⟩ := hd.slice_len
      have hlr := fun w' => lenV_run hl hx w'
      have hxk : (∃ a l cp, x' = .slice a l cp) ∨ ∃ s, x' = .string s := by
        unfold lenV at hl
        split at hl
        · obtain ⟨b', c', rfl, _⟩ := hx.slice_len; exact .inl ⟨_, _, _, rfl⟩
        · obtain rfl := hx.string_inv; exact .inr ⟨_, rfl⟩
        · cases hl
      split at h
      · rename_i hm
        have hm := (beq_iff _ _).1 hm
        cases h
        refine ⟨.int .i64 (.ofNat 0), w, ?_, Ext.refl hW, .int _ _⟩
        simp only [Builtin.copy_, ht0, h0, h1, Sem.run_bind, run_under hu, Result.andThen_ok, hlr, run_size hi, his, hm, firstCells_zero (C := C) hxk]
        cases b' <;> simp [storeCells, goInt]
      · rename_i a hm
        have hm := (beq_false _ _).1 hm
        simp only [Option.bind_eq_some_iff] at h
        obtain ⟨cs, hcs, h⟩ := h
        obtain ⟨cs', k1, k2, k3⟩ := srcCells_sound hW hcs hx hl (Nat.min_le_left _ _)
        have hpos' : 0 < len := by have h2 : Nat.min n len ≤ len := Nat.min_le_right n len; omega
        obtain ⟨pl, c3, hspot, hp, e2⟩ := hd.slice_pos hpos'
        cases e2
        obtain ⟨H2, q1, _, q3, q4, q5, q6⟩ := stCells_sound (c := c) hD hW h k1 hp
        simp only [Option.some.injEq, Prod.mk.injEq] at q1
        obtain ⟨rfl, rfl, rfl⟩ := q1
        refine ⟨.int .i64 (.ofNat (Nat.min n len)), _, ?_, q6, .int _ _⟩
        have hst := run_storeCells_cells (P := C.P) pl.blk (pl.sh + a.off) cs' 0 w (by simpa using q3) (by simpa using q4) q5
        simp only [Nat.add_zero] at hst
        simp only [Builtin.copy_, ht0, h0, h1, Sem.run_bind, run_under hu, Result.andThen_ok, hlr, run_size hi, his, k3 w rfl, hst, Sem.run_pure]
        rfl
      · cases h
    · cases h
  · cases h
theorem zeroCells_rep {z : Array Value} {n : Nat} : (Builtin.zeroCells z n).toList = repL n z.toList := range_rep z n
theorem clearF_sound (hD : C.D.oneCell' = true) (hW : WR C ρ H.get w) {ts : List TypeId} {ty : TypeId} {x x' u : Value} (h : clearF C.P H c ts x = some (u, H', c')) (hx : VR C ρ x x') :
    ∃ w', (Builtin.clear_ ts.toArray ty #[x']).run C.P w = .ok (.tuple #[]) w' ∧ Ext C ρ H.get c w ρ H'.get c' w' ∧ u = undef := by
  unfold clearF at h
  split at h
  · rename_i t ts
    have ht0 : ((t :: ts : List TypeId).toArray)[0]? = some t := rfl
    have h0 : (#[x'] : Array Value)[0]? = some x' := rfl
    split at h
    · rename_i d l cp hu
      · cases h
        obtain ⟨rfl, _⟩ := hx.slNil_inv
        exact ⟨w, by simp only [Builtin.clear_, ht0, h0, Sem.run_bind, run_under hu, Result.andThen_ok, Sem.run_pure], Ext.refl hW, rfl⟩
    · rename_i e a n cp hu
      split at h
      · rename_i hn
        have hn := (beq_iff _ _).1 hn
        subst hn
        cases h
        obtain ⟨b', c2, rfl, hbs⟩ := hx.slice_len
        obtain ⟨z, rfl⟩ := Option.isSome_iff_exists.1 hbs.symm
        exact ⟨w, by simp only [Builtin.clear_, ht0, h0, Sem.run_bind, run_under hu, Result.andThen_ok, Sem.run_pure], Ext.refl hW, rfl⟩
      · rename_i z hn hz
        have hn := (beq_false _ _).1 hn
        obtain ⟨pl, c3, hspot, hp, rfl⟩ := hx.slice_pos (by omega)
        obtain ⟨H2, q1, _, q3, q4, q5, q6⟩ := stCells_sound (c := c) hD hW h ((zero_self (C := C) (ρ := ρ) hz).repL n) hp
        simp only [Option.some.injEq, Prod.mk.injEq] at q1
        obtain ⟨rfl, rfl, rfl⟩ := q1
        have hst := run_storeCells_cells (P := C.P) pl.blk (pl.sh + a.off) (repL n z.cells.toList) 0 w (by simpa using q3) (by simpa using q4) q5
        simp only [Nat.add_zero] at hst
        obtain ⟨k, rfl⟩ : ∃ k, n = k + 1 := ⟨n - 1, by omega⟩
        exact ⟨_, by simp only [Builtin.clear_, ht0, h0, Sem.run_bind, run_under hu, Result.andThen_ok, run_zeroB hz, zeroCells_rep, hst, Sem.run_pure], q6, rfl⟩
      · cases h
    · cases h
  · cases h
/-! unsafe.String. -/
theorem run_loadBytesI (w : World) : ∀ (ns : List Int) (a : Addr) (acc : ByteArray), (∀ (j : Nat) n, ns[j]? = some n → w.cell? (a.add j) = some (.int .u8 n)) →
    (loadBytes a acc ns.length).run C.P w = .ok ⟨⟨acc.data.toList ++ ns.map fun n => UInt8.ofNat n.toNat⟩⟩ w
  | [], a, acc, _ => by simp [loadBytes]
  | n :: ns, a, acc, h => by
    have h0 := h 0 n rfl
    have e0 : a.add 0 = a := by simp [Addr.add]
    rw [e0] at h0
    have ih := run_loadBytesI w ns (a.add 1) (acc.push n.toNat.toUInt8) fun j m hj => by
      have := h (j + 1) m (by simpa using hj)
      have e1 : (a.add 1).add j = a.add (j + 1) := by unfold Addr.add; split <;> simp_all <;> omega
      rw [e1]; exact this
    simp only [List.length_cons, loadBytes, Sem.run_bind, run_load, h0, Result.andThen_ok]
    rw [ih]
    congr 1
    apply ByteArray.ext
    apply Array.ext'
    simp [ByteArray.push]
theorem lies_at {P : Program} {e : TypeId} (hc : P.cellsOf e = 1) {cnt off n : Nat} (h : off + n ≤ cnt) : liesAt P P.depth e cnt off e n = true := by
  have hd : P.depth = (2 * (P.types.size + Made.depth) + 1) + 1 := rfl
  rw [hd]
  unfold liesAt
  have hs : sameLayout P P.depth e e = true := by rw [hd]; unfold sameLayout; simp
  have hr : rowAt P (sameLayout P P.depth · e) P.depth e cnt off n = true := by
    rw [hd]
    unfold rowAt
    simp only [hc]
    rw [if_neg (by omega)]
    rw [← hd, hs]
    simp [h, Nat.mod_one]
  simp [hr]
theorem freeze_shape (w : World) (a : Addr) (n : Nat) : (w.freeze a n).heap.size = w.heap.size ∧ (w.freeze a n).os = w.os ∧ (w.freeze a n).tape = w.tape ∧ (w.freeze a n).output = w.output ∧
    ∀ i, i ≠ a.block → (w.freeze a n).heap[i]? = w.heap[i]? := by
  unfold World.freeze
  split
  · exact ⟨rfl, rfl, rfl, rfl, fun _ _ => rfl⟩
  · refine ⟨by simp, rfl, rfl, rfl, fun i hi => ?_⟩
    simp [Array.getElem?_modify, Ne.symm hi]
theorem two_args.{u} (motive : Array Value → Sort u) (p : Option Addr) (n : Value) (f : (p : Option Addr) → (n : Value) → motive #[.pointer p, n]) (g : (x : Array Value) → motive x) : Builtin.unsafeString_.match_3 motive #[.pointer p, n] f g = f p n := rfl
theorem unsafeStrF_sound (hW : WR C ρ H.get w) {ts : List TypeId} {ty : TypeId} {p p' n n' u : Value} (h : unsafeStrF C.P H c ts p n = some (u, H', c')) (hp : VR C ρ p p') (hn : VR C ρ n n') :
    ∃ v' w', (Builtin.unsafeString_ ts.toArray ty #[p', n']).run C.P w = .ok v' w' ∧ Ext C ρ H.get c w ρ H'.get c' w' ∧ VR C ρ u v' := by
  have hmax : IntKind.i64.max = 9223372036854775807 := rfl
  unfold unsafeStrF at h
  split at h
  · rename_i pt ts n
    obtain rfl := hn.int_inv
    have ht0 : ((pt :: ts : List TypeId).toArray)[0]? = some pt := rfl
    have i0 : asInt (.int .i64 (Int.ofNat n)) = (pure (Int.ofNat n) : Sem Int) := rfl
    cases hnb : Nat.beq n 0 with
    | true =>
      have hn0 := (beq_iff _ _).1 hnb
      subst hn0
      have hdef : ∀ q : Option Addr, (Builtin.unsafeString_ (pt :: ts : List TypeId).toArray ty #[.pointer q, .int .i64 (Int.ofNat 0)]).run C.P w = .ok (.string ⟨⟨[]⟩⟩) w := fun q => by
        cases q with
        | none =>
          unfold Builtin.unsafeString_
          rw [two_args]
          simp [asInt, asIntOf, hmax]; rfl
        | some z =>
          unfold Builtin.unsafeString_
          rw [two_args]
          simp [asInt, asIntOf, hmax]; rfl
      simp only [hnb] at h
      split at h
      · cases h; cases hp
        exact ⟨_, w, hdef _, Ext.refl hW, .string _⟩
      · cases h
        obtain ⟨pl, _, _, rfl⟩ := hp.ptr_inv
        exact ⟨_, w, hdef _, Ext.refl hW, .string _⟩
      · cases h
    | false =>
      have hn0 := (beq_false _ _).1 hnb
      simp only [hnb] at h
      split at h
      · rename_i a
        split at h
        · rename_i e el nn tr hpt hblk
          split at h
          · rename_i he hsz hle
            have he := (beq_iff _ _).1 he
            have hle := (ble_iff _ _).1 hle
            subst he
            obtain ⟨i, hi, his, hpos, _⟩ := szB_some hsz
            simp only [bind, Option.bind_eq_some_iff, Tr.setK_eq, Option.some.injEq, Prod.mk.injEq] at h
            obtain ⟨cs, hcs, bs, hbs, rfl, rfl, rfl⟩ := h
            obtain ⟨pl, hspot, hpp, rfl⟩ := hp.ptr_inv
            have hg := blkOf_some hblk
            obtain ⟨cs', k1, k2, k3⟩ := hW.cells hblk hpp hcs
            obtain ⟨ns, rfl, rfl⟩ := bytesOf_some hbs k1
            have hnl : ns.length = n := by simpa using k2
            obtain ⟨q, cc, fz, g1, g2, g3, g4, g5, g6⟩ := hW.br _ _ hg
            rw [hpp] at g1; cases g1
            have hce : C.P.cellsOf e = 1 := by unfold Program.cellsOf; rw [hi]; exact his
            have hfit : pl.sh + a.off + n ≤ cc.size := by
              have hlast := k3 (n - 1) (.int .u8 (ns[n-1]'(by omega))) (by simp)
              rw [addr_add] at hlast
              simp [World.cell?, g2] at hlast
              have := (Array.getElem?_eq_some_iff.1 hlast).1
              omega
            have hlb := run_loadBytesI (C := C) w ns ⟨pl.blk, pl.sh + a.off, none⟩ .empty fun j m hj => k3 j _ (by simp [hj])
            rw [hnl] at hlb
            have hlies := lies_at (P := C.P) hce (cnt := cc.size / C.P.cellsOf e) (off := pl.sh + a.off) (n := n) (by rw [hce]; simpa using hfit)
            have hsh : w.shape? pl.blk = some (e, cc.size) := by simp [World.shape?, g2]
            obtain ⟨f1, f2, f3, f4, f5⟩ := freeze_shape w ⟨pl.blk, pl.sh + a.off, none⟩ n
            refine ⟨.string ⟨⟨ns.map fun n => UInt8.ofNat n.toNat⟩⟩, w.freeze ⟨pl.blk, pl.sh + a.off, none⟩ n, ?_, ?_, .string _⟩
            · unfold Builtin.unsafeString_
              rw [two_args]
              have c1 : ¬ ((n : Int) < 0) := by omega
              have c2 : ¬ ((9223372036854775807 : Int) < (n : Int)) := by omega
              simp [asInt, asIntOf, hmax, c1, c2, hn0, variablesAt, hsh, elemOf, run_under hpt, hlies, hlb]
            · rw [get_setH]
              exact Ext.turn hW hg rfl hpp f1 f5 f2 f3 f4 fun y hy => by cases hy
          · cases h
        · cases h
      · cases h
  · cases h
end
end
end Go.Proofs.YtgljampcnbgbhaaGreatDoor.Ev
namespace Go.Proofs.YtgljampcnbgbhaaGreatDoor.Ev
open Go Go.RowKit
noncomputable section

/-- The package variables lie where they lie. -/
def Glob (ρ : Ren) : Prop := ∀ g, g < 16 → ∃ pl, ρ g = some pl ∧ pl.blk = g ∧ pl.sh = 0
theorem Glob.sub {ρ ρ' : Ren} (h : Glob ρ) (s : Sub ρ ρ') : Glob ρ' := fun g hg => let ⟨pl, h1, h2, h3⟩ := h g hg; ⟨pl, s _ _ h1, h2, h3⟩
/-- What a call comes to. -/
def CallSound (C : Cx) (f : Nat) (args : List Value) (H : Heap) (c : Nat) (out : Out) : Prop :=
  ∀ (ρ : Ren) (w : World) (args' : List Value), VRs C ρ args args' → WR C ρ H.get w → Glob ρ → Fresh ρ c out.2.2 →
    ∀ (o : Oper) (a : Act) (next : Act → World → Prop) (Q : Exit → Act → World → Prop),
      (∀ v' ρ' w', VR C ρ' out.1 v' → Ext C ρ H.get c w ρ' out.2.1.get out.2.2 w' → next (a.put o.dst v') w') →
      o.upon C.P a next Q ((callFunc f args'.toArray).run C.P w)
def CallerSound (C : Cx) (call : Caller) : Prop := ∀ f args H c out, call f args H c = some out → c ≤ out.2.2 ∧ CallSound C f args H c out
/-- The temporaries say what is known of them. -/
structure SR (C : Cx) (ρ : Ren) (nt : Nat) (ds : List Deferred) (T : Tr Value) (a : Act) : Prop where
  tmps : ∀ t v, T.get t = some v → VR C ρ v (a.tmps.getD t undef)
  size : nt ≤ a.tmps.size
  defers : a.defers = ds

section
variable {C : Cx} {ρ ρ' : Ren} {H H' : Heap} {w : World} {c c' nt : Nat} {T : Tr Value} {a : Act} {ds : List Deferred}
theorem SR.mono (h : SR C ρ nt ds T a) (s : Sub ρ ρ') : SR C ρ' nt ds T a := ⟨fun t v hv => (h.tmps t v hv).mono s, h.size, h.defers⟩
theorem SR.opd (h : SR C ρ nt ds T a) (hG : Glob ρ) (x : Operand) : OR C ρ T a x := fun v hv => by
  cases x with
  | tmp t => exact h.tmps t v hv
  | const u =>
    simp only [Ev.opd] at hv
    split at hv
    · rename_i ha; cases hv; exact VR_self_af 5 _ ha
    · cases hv
  | global g =>
    simp only [Ev.opd] at hv
    split at hv
    · rename_i hg
      cases hv
      obtain ⟨pl, h1, h2, h3⟩ := hG g ((blt_iff _ _).1 hg)
      have := VR.ptr (C := C) (o := 0) h1
      rw [h2, h3] at this
      exact this
    · cases hv
  | func f => simp only [Ev.opd] at hv; cases hv; exact .func f .nil .nil
theorem SR.put (h : SR C ρ nt ds T a) {d : Nat} (hd : d < nt) {v v' : Value} (hv : VR C ρ v v') : SR C ρ nt ds (T.set d (some v)) (a.put (some d) v') := by
  refine ⟨fun t u hu => ?_, ?_, h.defers⟩
  · rw [Tr.get_set] at hu
    have hs := h.size
    show VR C ρ u ((a.tmps.setIfInBounds d v').getD t undef)
    split at hu
    · rename_i e; subst e; cases hu
      have : (a.tmps.setIfInBounds t v').getD t undef = v' := by
        simp [Array.getD_eq_getD_getElem?, Array.getElem?_setIfInBounds_self_of_lt (show t < a.tmps.size by omega)]
      rw [this]; exact hv
    · rename_i e
      have : (a.tmps.setIfInBounds d v').getD t undef = a.tmps.getD t undef := by
        simp only [Array.getD_eq_getD_getElem?]
        rw [Array.getElem?_setIfInBounds_ne (Ne.symm e)]
      rw [this]; exact h.tmps t u hu
  · show nt ≤ (a.tmps.setIfInBounds d v').size
    simpa using h.size
theorem putF_some {R : Type} {K : Tr Value → Option R} {r : R} {dst : Option Tmp} {v : Value} (C : Cx) (h : putF nt dst v T K = some r) :
    ∃ T', K T' = some r ∧ ∀ {ρ ds a v'}, SR C ρ nt ds T a → VR C ρ v v' → SR C ρ nt ds T' (a.put dst v') := by
  unfold putF at h
  split at h
  · exact ⟨T, h, fun hs _ => ⟨hs.tmps, hs.size, hs.defers⟩⟩
  · rename_i d
    split at h
    · rename_i hd
      rw [Tr.setK_eq] at h
      exact ⟨_, h, fun hs hv => hs.put ((blt_iff _ _).1 hd) hv⟩
    · cases h
theorem undef_self : VR C ρ undef undef := .tuple .nil

theorem upon_value {o : Oper} {next : Act → World → Prop} {Q : Exit → Act → World → Prop} {v : Value} {w : World} : o.upon C.P a next Q (.ok (.value v) w) = next (a.put o.dst v) w := rfl

theorem opX_sound (hD : C.D.oneCell' = true) {call : Caller} (hcall : CallerSound C call) {o : Oper} {v : Value} (h : opX C.P T H call c o = some (v, H', c'))
    (hO : ∀ x ∈ o.op.operands, OR C ρ T a x) (hW : WR C ρ H.get w) (hG : Glob ρ) (hf : Fresh ρ c c') {next : Act → World → Prop} {Q : Exit → Act → World → Prop}
    (hk : ∀ v' ρ' w', VR C ρ' v v' → Ext C ρ H.get c w ρ' H'.get c' w' → next (a.put o.dst v') w') : o.wp C.P a w next Q := by
  have fin : ∀ {v' ρ' w'}, (execOp a.eval o).run C.P w = .ok (.value v') w' → VR C ρ' v v' → Ext C ρ H.get c w ρ' H'.get c' w' → o.wp C.P a w next Q := fun {v' ρ' w'} hr hv he => by
    unfold Oper.wp; rw [hr]; exact hk v' ρ' w' hv he
  have skip : ∀ {ρ' w'}, (execOp a.eval o).run C.P w = .ok .skip w' → v = undef → Ext C ρ H.get c w ρ' H'.get c' w' → o.wp C.P a w next Q := fun {ρ' w'} hr hv he => by
    unfold Oper.wp; rw [hr]; subst hv; exact hk undef ρ' w' undef_self he
  obtain ⟨dst, op, ty, pos, after, guard⟩ := o
  unfold opX at h
  simp only at h hO
  split at h
  · rename_i t m k x
    simp only [bind, Option.bind_eq_some_iff] at h
    obtain ⟨um, hum, uk, huk, ux, hux, h⟩ := h
    obtain ⟨w', h1, h2, h3⟩ := updateF_sound hW h (hO m (by simp [Op.operands]) _ hum) (hO k (by simp [Op.operands]) _ huk) (hO x (by simp [Op.operands]) _ hux)
    exact skip (run_u h1) h3 h2
  · rename_i t m k x
    simp only [bind, Option.bind_eq_some_iff] at h
    obtain ⟨um, hum, uk, huk, ux, hux, h⟩ := h
    obtain ⟨w', h1, h2, h3⟩ := updateF_sound hW h (hO m (by simp [Op.operands]) _ hum) (hO k (by simp [Op.operands]) _ huk) (hO x (by simp [Op.operands]) _ hux)
    exact skip (run_u h1) h3 h2
  · -- store
    rename_i t x y
    simp only [bind, Option.bind_eq_some_iff] at h
    obtain ⟨u, hu, z, hz, sz, hsz, h⟩ := h
    obtain ⟨i, hi, his, hpos, _⟩ := szB_some hsz
    have h0 := hO x (by simp [Op.operands]) _ hu
    have h1 := hO y (by simp [Op.operands]) _ hz
    split at h
    · rename_i ad hlen
      have hlen := (beq_iff _ _).1 hlen
      rw [lenL_eq] at hlen
      obtain ⟨pl, _, hp, he⟩ := h0.ptr_inv
      have hcv := h1.cellsV hD
      obtain ⟨H2, q1, _, q3, q4, q5, q6⟩ := stCells_sound (c := c) hD hW h hcv hp
      simp only [Option.some.injEq, Prod.mk.injEq] at q1
      obtain ⟨rfl, rfl, rfl⟩ := q1
      have hst := run_storeCells_cells (P := C.P) pl.blk (pl.sh + ad.off) (cellsV (a.eval y)) 0 w (by simpa using q3) (by simpa using q4) q5
      simp only [Nat.add_zero] at hst
      refine skip (run_u ?_) rfl q6
      have hsize : (a.eval y).cells.size = i.size := by rw [← Array.length_toList, cells_list, hcv.length, hlen, his]
      rw [he]
      simp only [Instr.storeAt, Instr.sureAddr, Sem.run_bind, Sem.run_pure, Result.andThen_ok, storeVar, run_size hi]
      rw [if_neg (by simpa using hsize)]
      rw [cells_list]
      exact hst
    · cases h
  · -- range
    rename_i t x
    simp only [bind, Option.bind_eq_some_iff] at h
    obtain ⟨u, hu, h⟩ := h
    obtain ⟨v', ρ', w', h1, h2, h3⟩ := rangeF_sound hW h (hO x (by simp [Op.operands]) _ hu) hf
    exact fin (run_v h1) h3 h2
  · -- next
    rename_i x s
    simp only [bind, Option.bind_eq_some_iff] at h
    obtain ⟨u, hu, h⟩ := h
    obtain ⟨v', w', h1, h2, h3⟩ := nextF_sound (ty := ty) hW h (hO x (by simp [Op.operands]) _ hu)
    exact fin (run_v h1) h3 h2
  · rename_i cl
    split at h
    · -- builtins
      rename_i b hb
      simp only [bind, Option.bind_eq_some_iff] at h
      obtain ⟨vs, hvs, h⟩ := h
      have hv := opds_sound (C := C) (ρ := ρ) (a := a) (fun x hx => hO x (by simp [Op.operands, Call.operands, hb]; simpa using hx)) hvs
      have key : ∀ {v' ρ' w'}, (builtin b cl.argTypes.toList.toArray ty (cl.args.map fun | .const _ => true | _ => false) (cl.args.toList.map a.eval).toArray).run C.P w = .ok (.value v') w' → VR C ρ' v v' → Ext C ρ H.get c w ρ' H'.get c' w' →
          Oper.wp C.P { dst, op := .call cl, type := ty, pos, after, guard } a w next Q := fun {v' ρ' w'} hr hv he => by
        refine fin ?_ hv he
        have e1 : cl.argTypes.toList.toArray = cl.argTypes := by simp
        have e2 : (cl.args.toList.map a.eval).toArray = cl.args.map a.eval := by rw [← Array.toList_map]
        rw [e1, e2] at hr
        simp only [execOp, resolve, hb, Sem.run_bind, Sem.run_pure, Result.andThen_ok, invoke]
        exact hr
      generalize cl.args.toList.map a.eval = vs' at hv key
      unfold builtinX at h
      split at h
      · cases hv with
        | cons r1 t1 =>
        cases t1 with
        | cons r2 t2 =>
        cases t2
        obtain ⟨v', ρ', w', h1, h2, h3⟩ := appendF_sound (ty := ty) hD hW h r1 r2 hf
        exact key (run_v h1) h3 h2
      · cases hv with
        | cons r1 t1 =>
        cases t1 with
        | cons r2 t2 =>
        cases t2
        obtain ⟨v', w', h1, h2, h3⟩ := copyF_sound (ty := ty) hD hW h r1 r2
        exact key (run_v h1) h3 h2
      · cases hv with
        | cons r1 t1 =>
        cases t1 with
        | cons r2 t2 =>
        cases t2
        obtain ⟨w', h1, h2, h3⟩ := deleteF_sound (ty := ty) hW h r1 r2
        subst h3
        exact key (run_v h1) undef_self h2
      · cases hv with
        | cons r1 t1 =>
        cases t1
        obtain ⟨w', h1, h2, h3⟩ := clearF_sound (ty := ty) hD hW h r1
        subst h3
        exact key (run_v h1) undef_self h2
      · cases hv with
        | cons r1 t1 =>
        cases t1 with
        | cons r2 t2 =>
        cases t2
        obtain ⟨v', w', h1, h2, h3⟩ := unsafeStrF_sound (ty := ty) hW h r1 r2
        exact key (run_v h1) h3 h2
      · cases h
    · -- calls
      rename_i f hfv
      simp only [bind, Option.bind_eq_some_iff] at h
      obtain ⟨u, hu, vs, hvs, h⟩ := h
      have hv := opds_sound (C := C) (ρ := ρ) (a := a) (fun x hx => hO x (by simp [Op.operands, Call.operands, hfv]; right; simpa using hx)) hvs
      have h0 := hO f (by simp [Op.operands, Call.operands, hfv]) _ hu
      split at h
      · rename_i g first cap
        simp only [forceL_eq] at h
        obtain ⟨x', y', he, r1, r2⟩ := h0.func_inv
        have hs := (hcall g _ H c _ h).2 ρ w (x'.toList ++ cl.args.toList.map a.eval ++ y'.toList) (VRs.append r2 (VRs.append hv r1)) hW hG hf { dst, op := .call cl, type := ty, pos, after, guard } a next Q hk
        unfold Oper.wp
        have e1 : (x'.toList ++ cl.args.toList.map a.eval ++ y'.toList).toArray = x' ++ cl.args.map a.eval ++ y' := by
          apply Array.ext'; simp
        rw [e1] at hs
        simp only [execOp, resolve, hfv, Sem.run_bind, Sem.run_pure, Result.andThen_ok, he, Deferred.ofValue, invoke]
        exact hs
      · cases h
    · cases h
  · cases h
end
end
end Go.Proofs.YtgljampcnbgbhaaGreatDoor.Ev
namespace Go.Proofs.YtgljampcnbgbhaaGreatDoor.Ev
open Go Go.RowKit
noncomputable section

structure Cx.Good (C : Cx) : Prop where
  ok : C.Ok
  one : C.D.oneCell' = true
  nb : ∀ b, C.D ≠ .bool b

section
variable {C : Cx} {ρ ρ' : Ren} {H H' : Heap} {w : World} {c c' nt : Nat} {T : Tr Value} {a : Act} {ds : List Deferred} {E : Env} {call : Caller}
theorem opF_sound (hC : C.Good) (hE : E.P = C.P) (hcall : CallerSound C call) {o : Oper} {v : Value} (h : opF E call T H c o = some (v, H', c'))
    (hO : ∀ x ∈ o.op.operands, OR C ρ T a x) (hW : WR C ρ H.get w) (hG : Glob ρ) (hf : Fresh ρ c c') {next : Act → World → Prop} {Q : Exit → Act → World → Prop}
    (hk : ∀ v' ρ' w', VR C ρ' v v' → Ext C ρ H.get c w ρ' H'.get c' w' → next (a.put o.dst v') w') : o.wp C.P a w next Q := by
  have vl : ∀ {u : Value}, opV E.P T H o = some u → (v, H', c') = (u, H, c) → o.wp C.P a w next Q := fun {u} hu e => by
    cases e
    rw [hE] at hu
    obtain ⟨v', h1, h2⟩ := opV_sound hC.ok hC.one hu hO hW
    unfold Oper.wp; rw [h1]
    exact hk v' ρ w h2 (Ext.refl hW)
  unfold opF at h
  split at h
  · simp only [bind, Option.bind_eq_some_iff] at h
    obtain ⟨u, hu, h⟩ := h
    cases h
    exact vl hu rfl
  · simp only [bind, Option.bind_eq_some_iff] at h
    obtain ⟨u, hu, h⟩ := h
    cases h
    exact vl hu rfl
  · simp only [bind, Option.bind_eq_some_iff] at h
    obtain ⟨⟨u, b⟩, hu, h⟩ := h
    rw [hE] at hu
    unfold newBlk at h
    simp only [Tr.setK_eq, forceN_eq, Option.some.injEq, Prod.mk.injEq] at h
    obtain ⟨rfl, rfl, rfl⟩ := h
    have hfc : ρ c = none := hf c (Nat.le_refl _) (by omega)
    obtain ⟨v', pl, w', h1, h2, h3, h4, h5, h6⟩ := opN_sound hC.one hu hO hfc w
    unfold Oper.wp; rw [h1]
    refine hk v' _ w' h4 ?_
    rw [get_setH]
    exact Ext.new hW hfc h2 h3 h5 h6
  · rw [hE] at h
    exact opX_sound hC.one hcall h hO hW hG hf hk
theorem VR.bool_iff (hC : C.Good) {v v' : Value} (h : VR C ρ v v') (hn : ∀ b, v ≠ .bool b) : ∀ b, v' ≠ .bool b := by
  intro b hb
  subst hb
  generalize hu : Value.bool b = u at h
  cases h <;> first | (exact absurd rfl (hn _)) | cases hu | skip
  exact hC.nb b hu.symm
theorem wantF_sound (hC : C.Good) {ops : Array Oper} {o : Oper} {b : Bool} (h : wantF ops.toList T o = some b)
    (hT : ∀ (j : Nat) (want : Bool) p d v, o.guard = some (j, want) → ops[j]? = some p → p.dst = some d → T.get d = some v → VR C ρ v (a.tmps.getD d undef)) :
    Region.wanted o (yielded ops a.tmps) = b := by
  unfold wantF at h
  unfold Region.wanted
  split at h
  · rename_i hg; cases h; rw [hg]
  · rename_i j want hg
    rw [hg]
    simp only [bind, Option.bind_eq_some_iff, nth_eq] at h
    obtain ⟨p, hp, d, hd, v, hv, h⟩ := h
    rw [Array.getElem?_toList] at hp
    have hr := hT j want p d v hg hp hd hv
    have hy : yielded ops a.tmps j = match a.tmps[d]? with | some (.bool b) => some b | _ => none := by
      simp only [yielded, hp, Option.bind_some, hd]
      cases a.tmps[d]? with
      | none => rfl
      | some y => cases y <;> rfl
    split at h
    · rename_i x
      simp at h
      have hx := hr.bool_inv
      have : a.tmps[d]? = some (.bool x) := by
        rw [Array.getD_eq_getD_getElem?] at hx
        cases hq : a.tmps[d]? with
        | none => rw [hq] at hx; simp [undef] at hx
        | some y => rw [hq] at hx; simp at hx; rw [hx]
      simp only [hy, this]
      rw [← h]
      cases x <;> cases want <;> rfl
    · rename_i hnb
      cases h
      have hnb' := hr.bool_iff hC (fun b e => hnb b e)
      have : (match a.tmps[d]? with | some (.bool b) => some b | _ => none : Option Bool) = none := by
        split
        · rename_i b hb
          exfalso
          apply hnb' b
          simp [Array.getD_eq_getD_getElem?, hb]
        · rfl
      simp only [hy, this]
      rfl

/-- What holds behind code. -/
def exOf : Ex → Exit
  | .normal => .normal
  | .exit i => .exit i
  | .goto l => .goto l
  | .ret => .ret
def Post (C : Cx) (ρ : Ren) (H : Heap) (c : Nat) (w : World) (nt : Nat) (ds : List Deferred) (s : St) (a : Act) (w' : World) : Prop :=
  ∃ ρ', SR C ρ' nt ds s.1 a ∧ Ext C ρ H.get c w ρ' s.2.1.get s.2.2 w'
def CodePost (C : Cx) (ρ : Ren) (H : Heap) (c : Nat) (w : World) (nt : Nat) (ds : List Deferred) (r : Ex × St) (e : Exit) (a : Act) (w' : World) : Prop :=
  e = exOf r.1 ∧ Post C ρ H c w nt ds r.2 a w'
theorem Post.trans {s s' : St} {a' : Act} {w w1 w2 : World} {ρ1 : Ren} (hW : WR C ρ H.get w) (hf : Fresh ρ c s'.2.2)
    (he : Ext C ρ H.get c w ρ1 s.2.1.get s.2.2 w1) (h2 : Post C ρ1 s.2.1 s.2.2 w1 nt ds s' a' w2) : Post C ρ H c w nt ds s' a' w2 := by
  obtain ⟨ρ2, k1, k2⟩ := h2
  refine ⟨ρ2, k1, he.trans k2 fun b k hb hc => ?_⟩
  exact hW.notFresh hf b k hb ⟨Nat.le_trans he.le hc.1, hc.2⟩
theorem opsF_le {all : List Oper} : ∀ (l : List Oper) {T : Tr Value} {H : Heap} {c : Nat} {s : St}, opsF E call nt all l T H c = some s → c ≤ s.2.2 := by
  intro l
  induction l with
  | nil => intro T H c s h; simp [opsF] at h; subst h; exact Nat.le_refl _
  | cons o l ih =>
    intro T H c s h
    simp only [opsF] at h
    split at h
    · split at h
      · split at h
        · rename_i hb
          obtain ⟨T1, h1, _⟩ := putF_some ⟨default, .nilIface, fun _ => 0, .map #[] 0, 0⟩ h
          exact Nat.le_trans ((ble_iff _ _).1 hb) (ih h1)
        · cases h
      · cases h
    · obtain ⟨T1, h1, _⟩ := putF_some ⟨default, .nilIface, fun _ => 0, .map #[] 0, 0⟩ h
      exact ih h1
    · cases h
theorem opsF_sound (hC : C.Good) (hE : E.P = C.P) (hcall : CallerSound C call) {ops : Array Oper} : ∀ (l : List Oper) {T : Tr Value} {H : Heap} {c : Nat} {ρ : Ren} {w : World} {a : Act} {s : St},
    opsF E call nt ops.toList l T H c = some s → SR C ρ nt ds T a → WR C ρ H.get w → Glob ρ → Fresh ρ c s.2.2 →
    ∀ {Q : Exit → Act → World → Prop}, (∀ a' w', Post C ρ H c w nt ds s a' w' → Q .normal a' w') → wpList C.P ops Q l a w := by
  intro l
  induction l with
  | nil =>
    intro T H c ρ w a s h hs hW hG hf Q hQ
    simp [opsF] at h; subst h
    exact hQ a w ⟨ρ, hs, Ext.refl hW⟩
  | cons o l ih =>
    intro T H c ρ w a s h hs hW hG hf Q hQ
    simp only [opsF] at h
    split at h
    · rename_i hwant
      split at h
      · rename_i v H1 c1 hop
        split at h
        · rename_i hb
          have hb := (ble_iff _ _).1 hb
          obtain ⟨T1, h1, hput⟩ := putF_some C h
          have hw := wantF_sound (C := C) (ρ := ρ) (a := a) hC hwant fun j want p d v _ _ _ hv => hs.tmps d v hv
          have hle := opsF_le l h1
          unfold wpList
          rw [hw, if_pos rfl]
          left
          refine opF_sound hC hE hcall hop (fun x _ => hs.opd hG x) hW hG (hf.mono (Nat.le_refl _) hle) fun v' ρ' w' hv he => ?_
          have hsub := he.sub (hf.mono (Nat.le_refl _) hle)
          exact ih h1 (hput (hs.mono hsub) hv) he.wr (hG.sub hsub) (he.fresh hf) fun a' w2 hp => hQ a' w2 (Post.trans (s := (T1, H1, c1)) hW hf he hp)
        · cases h
      · cases h
    · rename_i hwant
      obtain ⟨T1, h1, hput⟩ := putF_some C h
      have hw := wantF_sound (C := C) (ρ := ρ) (a := a) hC hwant fun j want p d v _ _ _ hv => hs.tmps d v hv
      unfold wpList
      rw [hw, if_neg (by simp)]
      exact ih h1 (hput hs undef_self) hW hG hf hQ
    · cases h
end
end
end Go.Proofs.YtgljampcnbgbhaaGreatDoor.Ev
namespace Go.Proofs.YtgljampcnbgbhaaGreatDoor.Ev
open Go Go.RowKit

/-- Code inside a scope whose labels may be jumped to. -/
def InScope (P : Program) (b cd : Code) (Q : Exit → Act → World → Prop) (a : Act) (w : World) : Prop :=
  ∀ (fr : Frame) (k : List Item) (cs : List Frame), ∃ e a' w', Q e a' w' ∧ Arrives P (lone (fr.at a (.code cd :: .inScope b :: k)) cs w) fr k cs e a' w'
theorem wp_scope {P : Program} {b : Code} {Q : Exit → Act → World → Prop} {a : Act} {w : World} (h : InScope P b b Q a w) : (Code.scope b).wp P Q a w := fun fr k cs =>
  let ⟨e, a', w', hq, harr⟩ := h fr k cs
  ⟨e, a', w', hq, .of_steps (.one step_scope) harr⟩

/-- A region that draws its order. -/
def DrawnOK (C : Cx) (E : Env) (nt : Nat) : Prop := ∀ (call : Caller), CallerSound C call → ∀ (ops : Array Oper) (id : Nat) (ds : List Deferred) (T : Tr Value) (H : Heap) (c : Nat) (s : St), drawnF E call nt ops.toList T H c = some s →
  c ≤ s.2.2 ∧ ∀ (ρ : Ren) (a : Act) (w : World), SR C ρ nt ds T a → WR C ρ H.get w → Glob ρ → Fresh ρ c s.2.2 → ∀ {Q : Exit → Act → World → Prop}, (∀ a' w', Post C ρ H c w nt ds s a' w' → Q .normal a' w') → (Code.region id ops true).wp C.P Q a w

section
variable {C : Cx} {nt : Nat} {ds : List Deferred} {E : Env}
/-- What an evaluation of code says. -/
structure CodeSaid (C : Cx) (nt : Nat) (ds : List Deferred) (sc : Option Code) (cd : Code) (T : Tr Value) (H : Heap) (c : Nat) (r : Ex × St) : Prop where
  le : c ≤ r.2.2.2
  wp : sc = none → ∀ (ρ : Ren) (a : Act) (w : World), SR C ρ nt ds T a → WR C ρ H.get w → Glob ρ → Fresh ρ c r.2.2.2 → cd.wp C.P (CodePost C ρ H c w nt ds r) a w
  loop : ∀ b, sc = none → cd = .loop b → ∃ n, ∀ (ρ : Ren) (a : Act) (w : World), SR C ρ nt ds T a → WR C ρ H.get w → Glob ρ → Fresh ρ c r.2.2.2 → Code.rounds C.P b (CodePost C ρ H c w nt ds r) n a w
  scope : ∀ b, sc = some b → ∀ (ρ : Ren) (a : Act) (w : World), SR C ρ nt ds T a → WR C ρ H.get w → Glob ρ → Fresh ρ c r.2.2.2 → InScope C.P b cd (CodePost C ρ H c w nt ds r) a w
theorem CodeSaid.plain {cd : Code} {T : Tr Value} {H : Heap} {c : Nat} {r : Ex × St} (hle : c ≤ r.2.2.2) (hn : ∀ b, cd ≠ .loop b)
    (h : ∀ (ρ : Ren) (a : Act) (w : World), SR C ρ nt ds T a → WR C ρ H.get w → Glob ρ → Fresh ρ c r.2.2.2 → cd.wp C.P (CodePost C ρ H c w nt ds r) a w) : CodeSaid C nt ds none cd T H c r :=
  ⟨hle, fun _ => h, fun b _ e => (hn b e).elim, fun b e => by cases e⟩
theorem codeF_sound (hC : C.Good) (hE : E.P = C.P) {callN : Nat → Caller} (hcall : ∀ n, CallerSound C (callN n)) (hdr : DrawnOK C E nt) : ∀ (fuel : Nat) (sc : Option Code) (cd : Code) (T : Tr Value) (H : Heap) (c : Nat) (r : Ex × St),
    codeF E nt callN fuel sc cd T H c = some r → CodeSaid C nt ds sc cd T H c r := by
  intro fuel
  induction fuel with
  | zero => intro sc cd T H c r h; simp [codeF] at h
  | succ fuel ih =>
    intro sc cd T H c r h
    -- what follows normal code
    have after : ∀ {ρ : Ren} {w w1 : World} {H : Heap} {c : Nat} {s1 : St} {r : Ex × St} {a1 : Act}, WR C ρ H.get w → Glob ρ → Fresh ρ c r.2.2.2 → s1.2.2 ≤ r.2.2.2 → Post C ρ H c w nt ds s1 a1 w1 →
        ∃ ρ1, SR C ρ1 nt ds s1.1 a1 ∧ WR C ρ1 s1.2.1.get w1 ∧ Glob ρ1 ∧ Fresh ρ1 s1.2.2 r.2.2.2 ∧
          ∀ e a2 w2, CodePost C ρ1 s1.2.1 s1.2.2 w1 nt ds r e a2 w2 → CodePost C ρ H c w nt ds r e a2 w2 := fun {ρ w w1 H c s1 r a1} hW hG hf hle hp => by
      obtain ⟨ρ1, k1, k2⟩ := hp
      have hsub := k2.sub (hf.mono (Nat.le_refl _) hle)
      exact ⟨ρ1, k1, k2.wr, hG.sub hsub, k2.fresh hf, fun e a2 w2 ⟨h1, h2⟩ => ⟨h1, Post.trans hW hf k2 h2⟩⟩
    cases sc with
    | some b =>
      simp only [codeF] at h
      split at h
      · -- a jump
        rename_i l T1 H1 c1 h1
        have i1 := ih _ _ _ _ _ _ h1
        split at h
        · rename_i rest hfl
          have i2 := ih _ _ _ _ _ _ h
          refine ⟨Nat.le_trans i1.le i2.le, (fun e => by cases e), (fun b e => by cases e), fun b' e => ?_⟩
          cases e
          intro ρ a w hs hW hG hf fr k cs
          obtain ⟨e, a1, w1, ⟨rfl, hp⟩, harr⟩ := i1.wp rfl ρ a w hs hW hG (hf.mono (Nat.le_refl _) i2.le) fr (.inScope b :: k) cs
          obtain ⟨ρ1, q1, q2, q3, q4, q5⟩ := after (r := r) hW hG hf i2.le hp
          obtain ⟨e2, a2, w2, hq, harr2⟩ := i2.scope b rfl ρ1 a1 w1 q1 q2 q3 q4 fr k cs
          have hgo : gotoIn l (.inScope b :: k) = some (.code rest :: .inScope b :: k) := by simp [gotoIn, hfl]
          exact ⟨e2, a2, w2, q5 _ _ _ hq, .of_steps (harr _ hgo) harr2⟩
        · cases h
      · rename_i hng
        have i1 := ih _ _ _ _ _ _ h
        refine ⟨i1.le, (fun e => by cases e), (fun b e => by cases e), fun b' e => ?_⟩
        cases e
        intro ρ a w hs hW hG hf fr k cs
        obtain ⟨e, a1, w1, ⟨he, hp⟩, harr⟩ := i1.wp rfl ρ a w hs hW hG hf fr (.inScope b :: k) cs
        refine ⟨e, a1, w1, ⟨he, hp⟩, ?_⟩
        obtain ⟨x, T1, H1, c1⟩ := r
        subst he
        cases x with
        | normal => exact Steps.trans harr (.one step_inScope)
        | exit id => exact fun k' hk => harr k' (by simp [exitTo, hk])
        | goto l => exact (hng l T1 H1 c1 h).elim
        | ret => exact harr
    | none =>
      simp only [codeF] at h
      split at h
      · -- skip
        cases h
        exact .plain (Nat.le_refl _) (fun b e => by cases e) fun ρ a w hs hW hG hf => wp_skip ⟨rfl, ρ, hs, Ext.refl hW⟩
      · cases h
        exact .plain (Nat.le_refl _) (fun b e => by cases e) fun ρ a w hs hW hG hf => wp_label ⟨rfl, ρ, hs, Ext.refl hW⟩
      · -- a region in the order of the text
        rename_i id ops
        split at h
        · rename_i T1 H1 c1 h1
          cases h
          exact .plain (opsF_le _ h1) (fun b e => by cases e) fun ρ a w hs hW hG hf => wp_region_list (opsF_sound hC hE (hcall fuel) _ h1 hs hW hG hf fun a' w' hp => ⟨rfl, hp⟩)
        · cases h
      · -- a region that draws
        rename_i id ops
        split at h
        · rename_i T1 H1 c1 h1
          cases h
          obtain ⟨d1, d2⟩ := hdr (callN fuel) (hcall fuel) ops id ds T H c _ h1
          exact .plain d1 (fun b e => by cases e) fun ρ a w hs hW hG hf => d2 ρ a w hs hW hG hf fun a' w' hp => ⟨rfl, hp⟩
        · cases h
      · -- seq
        rename_i x y
        split at h
        · rename_i T1 H1 c1 h1
          have i1 := ih _ _ _ _ _ _ h1
          have i2 := ih _ _ _ _ _ _ h
          refine .plain (Nat.le_trans i1.le i2.le) (fun b e => by cases e) fun ρ a w hs hW hG hf => ?_
          refine wp_seq (Code.wp_mono (fun e a1 w1 ⟨he, hp⟩ => ?_) (i1.wp rfl ρ a w hs hW hG (hf.mono (Nat.le_refl _) i2.le)))
          subst he
          obtain ⟨ρ1, q1, q2, q3, q4, q5⟩ := after (r := r) hW hG hf i2.le hp
          exact Code.wp_mono q5 (i2.wp rfl ρ1 a1 w1 q1 q2 q3 q4)
        · rename_i hnn
          have i1 := ih _ _ _ _ _ _ h
          refine .plain i1.le (fun b e => by cases e) fun ρ a w hs hW hG hf => ?_
          refine wp_seq (Code.wp_mono (fun e a1 w1 hp => ?_) (i1.wp rfl ρ a w hs hW hG hf))
          obtain ⟨he, hp2⟩ := hp
          obtain ⟨ex, T1, H1, c1⟩ := r
          subst he
          cases ex with
          | normal => exact (hnn T1 H1 c1 h).elim
          | exit i => exact ⟨rfl, hp2⟩
          | goto l => exact ⟨rfl, hp2⟩
          | ret => exact ⟨rfl, hp2⟩
      · -- cond
        rename_i x y z
        split at h
        · rename_i hx
          have i1 := ih _ _ _ _ _ _ h
          exact .plain i1.le (fun b e => by cases e) fun ρ a w hs hW hG hf => wp_cond_true ((hs.opd hG x _ hx).bool_inv) (i1.wp rfl ρ a w hs hW hG hf)
        · rename_i hx
          have i1 := ih _ _ _ _ _ _ h
          exact .plain i1.le (fun b e => by cases e) fun ρ a w hs hW hG hf => wp_cond_false ((hs.opd hG x _ hx).bool_inv) (i1.wp rfl ρ a w hs hW hG hf)
        · cases h
      · -- block
        rename_i id b
        split at h
        · rename_i i T1 H1 c1 h1
          have i1 := ih _ _ _ _ _ _ h1
          split at h
          · rename_i hb
            have hb := (beq_iff _ _).1 hb
            cases h
            refine .plain i1.le (fun b e => by cases e) fun ρ a w hs hW hG hf => wp_block (Code.wp_mono (fun e a1 w1 ⟨he, hp⟩ => ?_) (i1.wp rfl ρ a w hs hW hG hf))
            subst he
            simp only [exOf, Exit.inBlock, hb, if_true]
            exact ⟨rfl, hp⟩
          · rename_i hb
            have hb := (beq_false _ _).1 hb
            cases h
            refine .plain i1.le (fun b e => by cases e) fun ρ a w hs hW hG hf => wp_block (Code.wp_mono (fun e a1 w1 ⟨he, hp⟩ => ?_) (i1.wp rfl ρ a w hs hW hG hf))
            subst he
            simp only [exOf, Exit.inBlock, hb, if_false]
            exact ⟨rfl, hp⟩
        · rename_i hne
          have i1 := ih _ _ _ _ _ _ h
          refine .plain i1.le (fun b e => by cases e) fun ρ a w hs hW hG hf => wp_block (Code.wp_mono (fun e a1 w1 hp => ?_) (i1.wp rfl ρ a w hs hW hG hf))
          obtain ⟨he, hp2⟩ := hp
          obtain ⟨ex, T1, H1, c1⟩ := r
          subst he
          cases ex with
          | normal => exact ⟨rfl, hp2⟩
          | exit i => exact (hne i T1 H1 c1 h).elim
          | goto l => exact ⟨rfl, hp2⟩
          | ret => exact ⟨rfl, hp2⟩
      · -- loop
        rename_i b
        have main : ∃ n, c ≤ r.2.2.2 ∧ ∀ (ρ : Ren) (a : Act) (w : World), SR C ρ nt ds T a → WR C ρ H.get w → Glob ρ → Fresh ρ c r.2.2.2 → Code.rounds C.P b (CodePost C ρ H c w nt ds r) n a w := by
          split at h
          · rename_i T1 H1 c1 h1
            have i1 := ih _ _ _ _ _ _ h1
            have i2 := ih _ _ _ _ _ _ h
            obtain ⟨n, hn⟩ := i2.loop b rfl rfl
            refine ⟨n + 1, Nat.le_trans i1.le i2.le, fun ρ a w hs hW hG hf => ?_⟩
            rw [rounds_succ]
            refine Code.wp_mono (fun e a1 w1 ⟨he, hp⟩ => ?_) (i1.wp rfl ρ a w hs hW hG (hf.mono (Nat.le_refl _) i2.le))
            subst he
            obtain ⟨ρ1, q1, q2, q3, q4, q5⟩ := after (r := r) hW hG hf i2.le hp
            have mono : ∀ (n : Nat) (Q Q' : Exit → Act → World → Prop) (a : Act) (w : World), (∀ e a w, Q e a w → Q' e a w) → Code.rounds C.P b Q n a w → Code.rounds C.P b Q' n a w := by
              intro n
              induction n with
              | zero => intro Q Q' a w _ h; exact h
              | succ n ihn =>
                intro Q Q' a w hq h
                rw [rounds_succ] at h ⊢
                exact Code.wp_mono (fun e a w h => by cases e <;> first | exact hq _ _ _ h | exact ihn Q Q' a w hq h) h
            exact mono n _ _ a1 w1 q5 (hn ρ1 a1 w1 q1 q2 q3 q4)
          · rename_i hnn
            have i1 := ih _ _ _ _ _ _ h
            refine ⟨1, i1.le, fun ρ a w hs hW hG hf => ?_⟩
            rw [rounds_succ]
            refine Code.wp_mono (fun e a1 w1 hp => ?_) (i1.wp rfl ρ a w hs hW hG hf)
            obtain ⟨he, hp2⟩ := hp
            obtain ⟨ex, T1, H1, c1⟩ := r
            subst he
            cases ex with
            | normal => exact (hnn T1 H1 c1 h).elim
            | exit i => exact ⟨rfl, hp2⟩
            | goto l => exact ⟨rfl, hp2⟩
            | ret => exact ⟨rfl, hp2⟩
        obtain ⟨n, hle, hn⟩ := main
        exact ⟨hle, fun _ ρ a w hs hW hG hf => wp_loop_rounds n (hn ρ a w hs hW hG hf), fun b' _ e => by cases e; exact ⟨n, hn⟩, fun b e => by cases e⟩
      · cases h
        exact .plain (Nat.le_refl _) (fun b e => by cases e) fun ρ a w hs hW hG hf => wp_exit ⟨rfl, ρ, hs, Ext.refl hW⟩
      · cases h
        exact .plain (Nat.le_refl _) (fun b e => by cases e) fun ρ a w hs hW hG hf => wp_goto ⟨rfl, ρ, hs, Ext.refl hW⟩
      · -- scope
        have i1 := ih _ _ _ _ _ _ h
        exact .plain i1.le (fun b e => by cases e) fun ρ a w hs hW hG hf => wp_scope (i1.scope _ rfl ρ a w hs hW hG hf)
      · cases h
        exact .plain (Nat.le_refl _) (fun b e => by cases e) fun ρ a w hs hW hG hf => wp_ret ⟨rfl, ρ, hs, Ext.refl hW⟩
      · cases h
end
end Go.Proofs.YtgljampcnbgbhaaGreatDoor.Ev
