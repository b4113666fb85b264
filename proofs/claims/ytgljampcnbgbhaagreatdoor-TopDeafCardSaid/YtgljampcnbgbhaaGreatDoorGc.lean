/- asleep answers false. No conditions but those that each theorem names. -/
import Derived.Test.YtgljampcnbgbhaaGreatDoorGb
import Derived.Test.YtgljampcnbgbhaaGreatDoorFn
import Derived.Test.YtgljampcnbgbhaaGreatDoorFo
import Derived.Test.YtgljampcnbgbhaaGreatDoorFp
import Derived.Test.YtgljampcnbgbhaaGreatDoorFq
set_option linter.unusedVariables false
set_option linter.unusedSimpArgs false
namespace Go.Proofs.YtgljampcnbgbhaaGreatDoor.Ev
open Go Go.RowKit
set_option maxRecDepth 100000
section
variable {C : Cx} {n0 k0 : Nat} {w0 : World} {ρ0 ρ : Ren} {w : World}
theorem two_id (C : Cx) : Two C C idS idS C.X := ⟨rfl, rfl, rfl, rfl, fun i => by simp [idS, evF], fun i => by simp [idS, evF]⟩
theorem body13 : Tryz.f13.body = some (.seq (nav [0] (bodyOf Tryz.f13)) (.seq (nav [1, 0] (bodyOf Tryz.f13)) (.seq (nav [1, 1, 0] (bodyOf Tryz.f13)) (.seq (nav [1, 1, 1, 0] (bodyOf Tryz.f13)) (.seq (nav [1, 1, 1, 1, 0] (bodyOf Tryz.f13)) (.seq (nav [1, 1, 1, 1, 1, 0] (bodyOf Tryz.f13)) (.seq (nav [1, 1, 1, 1, 1, 1, 0] (bodyOf Tryz.f13)) (.seq (nav [1, 1, 1, 1, 1, 1, 1, 0] (bodyOf Tryz.f13)) .ret)))))))) := by kernel_rfl
theorem body27 : Tryz.f27.body = some (.seq (nav [0] (bodyOf Tryz.f27)) (.block 0 (.loop (nav [1, 0, 0] (bodyOf Tryz.f27))))) := by kernel_rfl
theorem slA : pieceB (some memo32) Tryz.f13.ntmps (nav [0] (bodyOf Tryz.f13)) A0 TA0 100 .normal idS idS 100 A0 TA0 = true := by kernel_rfl
theorem slB : pieceB (some memo32) Tryz.f27.ntmps (nav [0] (bodyOf Tryz.f27)) A3 [(0, .pointer (some ⟨108, 0, none⟩)), (1, .int .i64 (.ofNat 20))] 351 .normal idS idS 351 A3t TA3t = true := by kernel_rfl
theorem slC : pieceB (some memo32) Tryz.f27.ntmps (nav [1, 0, 0] (bodyOf Tryz.f27)) A11 TA11 2579 (.exit 0) idS idS 2579 A11s [] = true := by kernel_rfl
/-- Twenty ticks. -/
theorem ticks27 (hC : C.Good) (hP : C.P = Tryz.prog) (hcall : CallerSound C (callF env (hooksOf env (some memo32)) 100)) {pl : Pl} (hpl : ρ 108 = some pl) (hat : At C n0 w0 351 ρ 351 A3 ρ w) {R : Ending → World → Prop}
    (hR : ∀ v ρ' w', At C n0 w0 351 ρ 2579 A11s ρ' w' → R (.returned v) w') : Calls C.P 27 #[.pointer (some ⟨pl.blk, pl.sh + 0, none⟩), .int .i64 20] w R := by
  have hf27 : C.P.funcs[27]? = some Tryz.f27 := by rw [hP]; exact Tryz.func27
  refine calls_of_wp hf27 body27 ?_
  have hs0 := SR.args (C := C) (ρ := ρ) (args := [.pointer (some ⟨108, 0, none⟩), .int .i64 (.ofNat 20)]) (args' := [.pointer (some ⟨pl.blk, pl.sh + 0, none⟩), .int .i64 20]) (nt := Tryz.f27.ntmps) (.cons (.ptr hpl) (.cons (.int _ _) .nil)) (by rw [Tryz.ntmps27]; decide)
  refine wp_seq (piece hC hP hcall slB ⟨by decide, by decide⟩ (two_id C) (ds := []) hs0 hat fun ρ1 a1 w1 s1 t1 => ?_)
  refine wp_block (wp_loop_rounds 21 ?_)
  refine chain hC hP hcall sl3 ⟨by decide, by decide⟩ (two_id C) s1 t1 (m := 20) fun ρ1 a1 w1 s1 t1 => ?_
  refine chain hC hP hcall sl4 ⟨by decide, by decide⟩ (two_id C) s1 t1 (m := 19) fun ρ1 a1 w1 s1 t1 => ?_
  refine chain hC hP hcall sl5 ⟨by decide, by decide⟩ (two_id C) s1 t1 (m := 18) fun ρ1 a1 w1 s1 t1 => ?_
  refine chain hC hP hcall sl6 ⟨by decide, by decide⟩ (two_id C) s1 t1 (m := 17) fun ρ1 a1 w1 s1 t1 => ?_
  refine chain hC hP hcall sl7 ⟨by decide, by decide⟩ (two_id C) s1 t1 (m := 13) fun ρ1 a1 w1 s1 t1 => ?_
  refine chain hC hP hcall sl8 ⟨by decide, by decide⟩ (two_id C) s1 t1 (m := 9) fun ρ1 a1 w1 s1 t1 => ?_
  refine chain hC hP hcall sl9 ⟨by decide, by decide⟩ (two_id C) s1 t1 (m := 5) fun ρ1 a1 w1 s1 t1 => ?_
  refine chain hC hP hcall sl10 ⟨by decide, by decide⟩ (two_id C) s1 t1 (m := 1) fun ρ1 a1 w1 s1 t1 => ?_
  rw [rounds_succ]
  refine piece hC hP hcall slC ⟨by decide, by decide⟩ (two_id C) s1 t1 fun ρ1 a1 w1 s1 t1 => ?_
  show bodyPost C.P Tryz.f27 R .normal a1 w1
  refine ⟨s1.defers, _, results_none rfl _ _ _, hR _ ρ1 w1 t1⟩

theorem r5_13 : nav [1, 1, 1, 1, 0] (bodyOf Tryz.f13) = .region 5 #[{ dst := some 23, op := Op.move (Operand.tmp 1), type := 24, pos := "law.go:31", after := #[], guard := none }, { dst := some 24, op := Op.call { callee := Callee.value (Operand.func 27), args := #[Operand.tmp 23, Operand.const (Value.int IntKind.i64 (Int.ofNat 20))], argTypes := #[24, 3] }, type := 0, pos := "law.go:31", after := #[{ on := 0, ground := Ground.data }], guard := none }] false := by kernel_rfl
theorem upon_calls {P : Program} {o : Oper} {f : Nat} {fn : Func} {cd : Code} {args : Array Value} {a : Act} {next : Act → World → Prop} {Q : Exit → Act → World → Prop} (hf : P.funcs[f]? = some fn) (hn : (fn.name == "runtime.NumGoroutine") = false) (hb : fn.body = some cd)
    (h : Calls P f args w fun e w' => ∃ v, e = .returned v ∧ next (a.put o.dst v) w') : o.upon P a next Q ((callFunc f args).run P w) := by
  rw [MuLone.run_callFunc_enter hf hn hb, Oper.upon_enter]
  refine Calls.mono h fun e w' ⟨v, he, hv⟩ => ?_
  subst he
  exact hv
theorem SR.beside {nt : Nat} {ds : List Deferred} {T : Tr Value} {a : Act} (h : SR C ρ nt ds T a) {d : Nat} (hd : T.get d = none) (v : Value) : SR C ρ nt ds T (a.put (some d) v) := by
  refine ⟨fun t u ht => ?_, by show nt ≤ (a.tmps.setIfInBounds d v).size; simpa using h.size, h.defers⟩
  have hne : t ≠ d := by rintro rfl; rw [hd] at ht; cases ht
  have := h.tmps t u ht
  show VR C ρ u ((a.tmps.setIfInBounds d v).getD t undef)
  simp only [Array.getD_eq_getD_getElem?] at this ⊢
  rw [Array.getElem?_setIfInBounds_ne (Ne.symm hne)]
  exact this
theorem eval_put {a : Act} {d : Nat} (hd : d < a.tmps.size) (v : Value) : (a.put (some d) v).eval (.tmp d) = v := by
  simp [Act.eval, Act.put, hd]
theorem asleep13 (hC : C.Good) (hP : C.P = Tryz.prog) (hcall : CallerSound C (callF env (hooksOf env (some memo32)) 100)) (hk : k0 ≤ 100) (hat : At C n0 w0 k0 ρ0 100 A0 ρ w) {R : Ending → World → Prop}
    (hR : ∀ ρ' w', At C n0 w0 k0 ρ0 2597 A14 ρ' w' → R (.returned (.bool true)) w') : Calls C.P 13 #[] w R := by
  have hf13 : C.P.funcs[13]? = some Tryz.f13 := by rw [hP]; exact Tryz.func13
  have hf27 : C.P.funcs[27]? = some Tryz.f27 := by rw [hP]; exact Tryz.func27
  refine calls_of_wp hf13 body13 ?_
  have hs0 := SR.args (C := C) (ρ := ρ) (args := []) (args' := []) (nt := Tryz.f13.ntmps) .nil (by decide)
  refine wp_seq (piece hC hP hcall slA ⟨by decide, by omega⟩ (two_id C) (ds := []) hs0 hat fun ρ1 a1 w1 s1 t1 => ?_)
  refine wp_seq (piece hC hP hcall sl0 ⟨by decide, by omega⟩ (two_id C) s1 t1 fun ρ1 a1 w1 s1 t1 => ?_)
  refine wp_seq (piece hC hP hcall sl1 ⟨by decide, by omega⟩ (two_id C) s1 t1 fun ρ1 a1 w1 s1 t1 => ?_)
  refine wp_seq (piece hC hP hcall sl2 ⟨by decide, by omega⟩ (two_id C) s1 t1 fun ρ1 a1 w1 s1 t1 => ?_)
  rw [r5_13]
  have hp := s1.tmps 1 (.pointer (some ⟨108, 0, none⟩)) (by rfl)
  obtain ⟨pl, _, hpl, he⟩ := hp.ptr_inv
  change a1.tmps.getD 1 undef = .pointer (some ⟨pl.blk, pl.sh + 0, none⟩) at he
  refine wp_seq (wp_region_list ?_)
  unfold wpList
  rw [if_pos (show Region.wanted _ _ = true from rfl)]
  left
  unfold Oper.wp
  have e1 : (execOp a1.eval { dst := some 23, op := Op.move (Operand.tmp 1), type := 24, pos := "law.go:31", after := #[], guard := none }).run C.P w1 = .ok (.value (a1.tmps.getD 1 undef)) w1 := rfl
  rw [e1, Oper.upon_value]
  unfold wpList
  rw [if_pos (show Region.wanted _ _ = true from rfl)]
  left
  unfold Oper.wp
  have hsz := s1.size
  rw [Tryz.ntmps13] at hsz
  have h23 : (a1.put (some 23) (a1.tmps.getD 1 undef)).eval (.tmp 23) = .pointer (some ⟨pl.blk, pl.sh + 0, none⟩) := by
    rw [eval_put (by omega), he]
  have e2 : ∀ (ev : Operand → Value) (p : Value), ev (.func 27) = .func (.func 27) #[] #[] → ev (.tmp 23) = p → ev (.const (.int .i64 (.ofNat 20))) = .int .i64 20 → (execOp ev { dst := some 24, op := Op.call { callee := Callee.value (Operand.func 27), args := #[Operand.tmp 23, Operand.const (Value.int IntKind.i64 (Int.ofNat 20))], argTypes := #[24, 3] }, type := 0, pos := "law.go:31", after := #[{ on := 0, ground := Ground.data }], guard := none }).run C.P w1 = (callFunc 27 #[p, .int .i64 20]).run C.P w1 := by
    intro ev p h1 h2 h3
    have h3' : ev (.const (.int .i64 20)) = .int .i64 20 := h3
    simp [execOp, resolve, Sem.run_bind, Sem.run_pure, Result.andThen_ok, h1, Deferred.ofValue, invoke, h2, h3']
  rw [e2 _ _ rfl h23 rfl]
  refine upon_calls hf27 (by kernel_rfl) body27 (ticks27 hC hP hcall hpl ⟨t1.wr, t1.glob, t1.own, t1.size, t1.old, t1.os, t1.tape, t1.output, t1.free, by decide, fun _ _ => rfl⟩ fun v ρ2 w2 t2 => ⟨v, rfl, ?_⟩)
  unfold wpList
  have hsub : Sub ρ1 ρ2 := fun b q hb => by
    have hlt : b < 351 := by
      apply Classical.byContradiction
      intro hge
      rw [t1.free b (by omega)] at hb; cases hb
    rw [t2.ren b hlt]; exact hb
  have s2 := (((s1.mono hsub).beside (d := 23) (by rfl) (a1.tmps.getD 1 undef)).beside (d := 24) (by rfl) v)
  have t2' : At C n0 w0 k0 ρ0 2579 A11s ρ2 w2 := ⟨t2.wr, t2.glob, t2.own, t2.size, t2.old, t2.os, t2.tape, t2.output, t2.free, by omega, fun b hb => by rw [t2.ren b (by omega), t1.ren b hb]⟩
  refine wp_seq (piece hC hP hcall sl11 ⟨by decide, by omega⟩ (two_id C) s2 t2' fun ρ1 a1 w1 s1 t1 => ?_)
  refine wp_seq (piece hC hP hcall sl12 ⟨by decide, by omega⟩ (two_id C) s1 t1 fun ρ1 a1 w1 s1 t1 => ?_)
  refine wp_seq (piece hC hP hcall sl13 ⟨by decide, by omega⟩ (two_id C) s1 t1 fun ρ1 a1 w1 s1 t1 => ?_)
  refine wp_ret ?_
  obtain ⟨v', r1, r2⟩ := results_sound (fn := Tryz.f13) s1 t1.wr (vs := [.bool true]) (by rw [hP]; rfl)
  cases r2
  exact ⟨s1.defers, _, r1, hR ρ1 w1 t1⟩
end
end Go.Proofs.YtgljampcnbgbhaaGreatDoor.Ev
