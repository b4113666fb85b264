/- The law's function, walked whole. No conditions but those that each theorem names. (Printed by a program of ours.) -/
import Derived.Test.YtgljampcnbgbhaaGreatDoorGg
set_option linter.unusedVariables false
set_option linter.unusedSimpArgs false
namespace Go.Proofs.YtgljampcnbgbhaaGreatDoor.Ev
open Go Go.RowKit
set_option maxRecDepth 100000
section
variable {D : Value} {dr : Obj} {db n0 : Nat} {w0 : World} {ρ0 ρ : Ren} {t : Int} {w : World}
/-- asleep. -/
theorem asleep4 {x y : Int} (good : (cx D dr db x y).Good) (hd : (cx D dr db x y).Draws) (hat : At (cx D dr db x y) n0 w0 0 ρ0 100 A0 ρ w) :
    Calls Tryz.prog 4 #[] w fun e w' => e = .returned (.bool false) ∧ ∃ ρ', At (cx D dr db x y) n0 w0 0 ρ0 2597 A14 ρ' w' := by
  have h13 : Calls Tryz.prog 13 #[] w fun e w' => e = .returned (.bool true) ∧ ∃ ρ', At (cx D dr db x y) n0 w0 0 ρ0 2597 A14 ρ' w' :=
    asleep13 good rfl (called good rfl hd) (Nat.zero_le _) hat fun ρ' w' h => ⟨rfl, ρ', h⟩
  go_enter Tryz.func4, Tryz.ntmps4
  go_wp2_with (refine Calls.mono h13 ?_)
  rintro e w' ⟨rfl, ρ', h⟩
  go_wp2
  go_ret
  exact ⟨rfl, ρ', h⟩
theorem body3 : Tryz.f3.body = some (.seq (nav [0] (bodyOf Tryz.f3)) (.seq (nav [1, 0] (bodyOf Tryz.f3)) (.seq (nav [1, 1, 0] (bodyOf Tryz.f3)) (.seq (nav [1, 1, 1, 0] (bodyOf Tryz.f3)) (.seq (nav [1, 1, 1, 1, 0] (bodyOf Tryz.f3)) (.seq (nav [1, 1, 1, 1, 1, 0] (bodyOf Tryz.f3)) (.seq (nav [1, 1, 1, 1, 1, 1, 0] (bodyOf Tryz.f3)) (.seq (.seq (nav [1, 1, 1, 1, 1, 1, 1, 0, 0] (bodyOf Tryz.f3)) (.block 0 (.loop (nav [1, 1, 1, 1, 1, 1, 1, 0, 1, 0, 0] (bodyOf Tryz.f3))))) (inRow [nav [1, 1, 1, 1, 1, 1, 1, 1, 0] (bodyOf Tryz.f3), nav [1, 1, 1, 1, 1, 1, 1, 1, 1, 0] (bodyOf Tryz.f3)] (nav [1, 1, 1, 1, 1, 1, 1, 1, 1, 1] (bodyOf Tryz.f3))))))))))) := by kernel_rfl
theorem l0_eq : nav [0] (bodyOf Tryz.f3) = .region 0 #[{ dst := some 4, op := Op.assign (Operand.const (Value.bool false)), type := 4, pos := "top30.go:538", after := #[], guard := none }] false := by kernel_rfl
theorem l1_eq : nav [1, 0] (bodyOf Tryz.f3) = (Code.region 1 #[{ dst := some 11, op := Op.call { callee := Callee.value (Operand.func 4), args := #[], argTypes := #[] }, type := 4, pos := "top30.go:539", after := #[], guard := none }] false).seq (.cond (.tmp 11) (.seq (.region 2 #[{ dst := some 4, op := Op.assign (Operand.const (Value.bool false)), type := 4, pos := "top30.go:540", after := #[], guard := none }] false) .ret) .skip) := by kernel_rfl
theorem l2_eq : nav [1, 1, 0] (bodyOf Tryz.f3) = (Code.region 3 #[{ dst := some 12, op := Op.move (Operand.tmp 1), type := 22, pos := "top30.go:542", after := #[], guard := none }, { dst := some 13, op := Op.call { callee := Callee.builtin Builtin.len, args := #[Operand.tmp 12], argTypes := #[22] }, type := 3, pos := "top30.go:542", after := #[{ on := 0, ground := Ground.data }], guard := none }, { dst := some 14, op := Op.binOp BinOp.gtr 3 (Operand.tmp 13) (Operand.const (Value.int IntKind.i64 (Int.ofNat 100))) 3, type := 4, pos := "top30.go:542", after := #[{ on := 1, ground := Ground.data }], guard := none }] false).seq (.cond (.tmp 14) (.seq (.region 4 #[{ dst := some 4, op := Op.assign (Operand.const (Value.bool true)), type := 4, pos := "top30.go:543", after := #[], guard := none }] false) .ret) .skip) := by kernel_rfl
theorem back0 : leH idS idS 100 (buildP A14 .e) D0 = true := by kernel_rfl
theorem args3 (v : Value) : Tr.mk [v, .chan (some 0)] = mkT TD0 v := by kernel_rfl
/-- What the law's arguments lie in, wherever blocks lie. -/
structure Args (D : Value) (t : Int) (a : Act) : Prop where
  t0 : a.tmps.getD 0 undef = .int .u8 t
  t1 : a.tmps.getD 1 undef = D
  size : 83 ≤ a.tmps.size
  defers : a.defers = []
theorem Args.put {a : Act} (h : Args D t a) {d : Nat} (hd : 2 ≤ d) (v : Value) : Args D t (a.put (some d) v) := by
  refine ⟨?_, ?_, by show 83 ≤ (a.tmps.setIfInBounds d v).size; simpa using h.size, h.defers⟩
  · exact (eval_other (a := a) (d := d) (e := 0) (by omega) v).trans h.t0
  · exact (eval_other (a := a) (d := d) (e := 1) (by omega) v).trans h.t1
theorem Args.sr {a : Act} (h : Args D t a) {x y : Int} (ρ : Ren) : SR (cx D dr db x y) ρ Tryz.f3.ntmps [] (mkT TD0 (.int .u8 t)) a := by
  refine ⟨fun i v hv => ?_, by rw [Tryz.ntmps3]; exact h.size, h.defers⟩
  rw [← args3, Tr.get_mk] at hv
  match i, hv with
  | 0, hv => simp at hv; subst hv; rw [h.t0]; exact .int _ _
  | 1, hv => simp at hv; subst hv; rw [h.t1]; exact .tok0 (C := cx D dr db x y)
  | n + 2, hv => simp at hv
theorem ret_true {a : Act} (h4 : a.tmps.getD 4 undef = .bool true) (w : World) : (results Tryz.f3 a.tmps).run Tryz.prog w = .ok (.bool true) w := by
  have hs : SR (cx (.bool true) (.map #[] 0) 0 2 2) (fun _ => none) 0 a.defers ((Tr.e : Tr Value).set 4 (some (.bool true))) a := by
    refine ⟨fun i v hv => ?_, Nat.zero_le _, rfl⟩
    rw [Tr.get_set] at hv
    split at hv
    · rename_i e; subst e; cases hv; rw [h4]; exact .bool _
    · rw [Tr.get_e] at hv; cases hv
  have he0 : (Tr.get (.e : Heap)) = fun _ => none := funext fun b => Tr.get_e b
  obtain ⟨v', r1, r2⟩ := results_sound (fn := Tryz.f3) hs (H := (.e : Heap)) (by rw [he0]; exact WR.empty _ _ w) (vs := [.bool true]) (by kernel_rfl)
  cases r2
  exact r1
/-- The law. -/
theorem law3 (h0 : 0 ≤ t) (h1 : t ≤ 255) {ad : Option Addr} {len cap : Nat} (hD : D = .slice ad len cap) (hd : (cx D dr db 2 2).Draws) (hat : At (cx D dr db 2 2) n0 w0 0 ρ0 100 A0 ρ w) {R : Ending → World → Prop}
    (hR : ∀ C cap S ρ' w', At C n0 w0 0 ρ0 cap S ρ' w' → R (.returned (.bool true)) w') : Calls Tryz.prog 3 #[.int .u8 t, D] w R := by
  have one : D.oneCell' = true := by rw [hD]; rfl
  have nb : ∀ b, D ≠ .bool b := by rw [hD]; intro b e; cases e
  have good : (cx D dr db 2 2).Good := cx_good one nb (by decide) (by decide) (by decide) (by decide)
  have call := called good rfl hd
  refine calls_of_wp Tryz.func3 body3 ?_
  have ha : Args D t { tmps := #[.int .u8 t, D] ++ Array.replicate (Tryz.f3.ntmps - (#[.int .u8 t, D] : Array Value).size) undef, defers := [] } := by
    rw [Tryz.ntmps3]
    exact ⟨by rw [Array.getD_eq_getD_getElem?, Array.getElem?_append_left (by simp)]; rfl, by rw [Array.getD_eq_getD_getElem?, Array.getElem?_append_left (by simp)]; rfl, by simp, rfl⟩
  generalize ({ tmps := #[.int .u8 t, D] ++ Array.replicate (Tryz.f3.ntmps - (#[.int .u8 t, D] : Array Value).size) undef, defers := [] } : Act) = a at ha
  -- a plain start
  rw [l0_eq]
  refine wp_seq (wp_region_list (list_val rfl (v := .bool false) rfl ?_))
  have ha1 := ha.put (d := 4) (by omega) (.bool false)
  show wpList Tryz.prog _ _ _ (a.put (some 4) (.bool false)) w
  generalize a.put (some 4) (.bool false) = a1 at ha1
  unfold wpList
  -- asleep
  show (Code.seq _ _).wp _ _ _ _
  rw [l1_eq]
  refine wp_seq (wp_seq (wp_region_list ?_))
  unfold wpList
  rw [if_pos (show Region.wanted _ _ = true from rfl)]
  left
  unfold Oper.wp
  have e2 : ∀ (ev : Operand → Value), ev (.func 4) = .func (.func 4) #[] #[] → (execOp ev { dst := some 11, op := Op.call { callee := Callee.value (Operand.func 4), args := #[], argTypes := #[] }, type := 4, pos := "top30.go:539", after := #[], guard := none }).run Tryz.prog w = (callFunc 4 #[]).run Tryz.prog w := by
    intro ev h1
    simp [execOp, resolve, Sem.run_bind, Sem.run_pure, Result.andThen_ok, h1, Deferred.ofValue, invoke]
  rw [e2 _ rfl]
  refine upon_calls Tryz.func4 (by kernel_rfl) rfl ((asleep4 good hd hat).mono ?_)
  rintro e w1 ⟨rfl, ρ1, at1⟩
  refine ⟨_, rfl, ?_⟩
  have ha2 := ha1.put (d := 11) (by omega) (.bool false)
  have e11 : (a1.put (some 11) (.bool false)).eval (.tmp 11) = .bool false := eval_put (by have := ha1.size; omega) _
  show wpList Tryz.prog _ _ _ (a1.put (some 11) (.bool false)) w1
  generalize a1.put (some 11) (.bool false) = a2 at ha2 e11
  unfold wpList
  refine wp_cond_false e11 (wp_skip ?_)
  -- too many draws
  show (Code.seq _ _).wp _ _ _ _
  rw [l2_eq]
  refine wp_seq (wp_seq (wp_region_list ?_))
  have hv1 : a2.eval (.tmp 1) = .slice ad len cap := ha2.t1.trans hD
  refine list_val rfl (v := .slice ad len cap) (by show _ = _; rw [← hv1]; rfl) ?_
  have ha3 := ha2.put (d := 12) (by omega) (.slice ad len cap)
  have e12 : (a2.put (some 12) (.slice ad len cap)).eval (.tmp 12) = .slice ad len cap := eval_put (by have := ha2.size; omega) _
  show wpList Tryz.prog _ _ _ (a2.put (some 12) (.slice ad len cap)) w1
  generalize a2.put (some 12) (.slice ad len cap) = a3 at ha3 e12
  refine list_val rfl (v := .int .i64 len) (e_len _ ad len cap w1 e12) ?_
  have ha4 := ha3.put (d := 13) (by omega) (.int .i64 len)
  have e13 : (a3.put (some 13) (.int .i64 len)).eval (.tmp 13) = .int .i64 len := eval_put (by have := ha3.size; omega) _
  show wpList Tryz.prog _ _ _ (a3.put (some 13) (.int .i64 len)) w1
  generalize a3.put (some 13) (.int .i64 len) = a4 at ha4 e13
  refine list_val rfl (v := .bool (decide (100 < (len : Int)))) (e_gtr _ len w1 e13 rfl) ?_
  have ha5 := ha4.put (d := 14) (by omega) (.bool (decide (100 < (len : Int))))
  have e14 : (a4.put (some 14) (.bool (decide (100 < (len : Int))))).eval (.tmp 14) = .bool (decide (100 < (len : Int))) := eval_put (by have := ha4.size; omega) _
  show wpList Tryz.prog _ _ _ (a4.put (some 14) (.bool (decide (100 < (len : Int))))) w1
  generalize a4.put (some 14) (.bool (decide (100 < (len : Int)))) = a5 at ha5 e14
  unfold wpList
  by_cases hlen : 100 < (len : Int)
  · rw [decide_eq_true hlen] at e14
    refine wp_cond_true e14 (wp_seq (wp_region_list (list_val rfl (v := .bool true) rfl ?_)))
    unfold wpList
    refine wp_ret ⟨ha5.defers, _, ret_true (eval_put (by have := ha5.size; omega) _) w1, hR _ _ _ _ _ at1⟩
  rw [decide_eq_false hlen] at e14
  refine wp_cond_false e14 (wp_skip ?_)
  have hat0 : At (cx D dr db 2 2) n0 w0 0 ρ0 100 D0 (restr ρ1 100) w1 := at1.next (Ext.refl at1.wr) (two_id _) back0 ⟨by decide, by decide⟩
  have hs0 := ha5.sr (dr := dr) (db := db) (x := 2) (y := 2) (restr ρ1 100)
  refine row good rfl call (df0 _) rfl ⟨by decide, by decide⟩ (two_id _) hs0 hat0 (r := .seq _ _) fun ρ2 a2 w2 s2 t2 => ?_
  refine row good rfl call (df1 _) rfl ⟨by decide, by decide⟩ (two_id _) s2 t2 (r := .seq _ _) fun ρ2 a2 w2 s2 t2 => ?_
  refine row good rfl call (df2 _) rfl ⟨by decide, by decide⟩ (two_id _) s2 t2 (r := .seq _ _) fun ρ2 a2 w2 s2 t2 => ?_
  refine wp_seq ?_
  refine row good rfl call (df3 _) rfl ⟨by decide, by decide⟩ (two_id _) s2 t2 (r := .block _ _) fun ρ2 a2 w2 s2 t2 => ?_
  refine wp_block (wp_loop_rounds (t.toNat + 1) (ticks one nb hd h0 h1 (fun k a' w' hk hi => ?_) t.toNat 0 a2 w2 (by omega) ⟨_, _, _, _, _, ρ2, .s0, s2, t2⟩))
  show (inRow _ _).wp _ _ _ _
  refine behind one nb hd hk hi fun C ρ' ρ1 U' a' w' h4 k4 t4 => ?_
  have := k4.tmps 4 _ h4
  have h4' : a'.tmps.getD 4 undef = .bool true := by generalize a'.tmps.getD 4 undef = z at this; cases this; rfl
  exact ⟨k4.defers, _, ret_true h4' w', hR _ _ _ _ _ t4⟩
end
end Go.Proofs.YtgljampcnbgbhaaGreatDoor.Ev
