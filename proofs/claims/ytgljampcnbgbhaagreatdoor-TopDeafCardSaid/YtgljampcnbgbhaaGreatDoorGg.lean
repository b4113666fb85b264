/- The law, walked: whoever is called by a digipeater that does not hear the caller never comes up. No conditions but those that each theorem names. (Printed by a program of ours.) -/
import Derived.Test.YtgljampcnbgbhaaGreatDoorGd
import Derived.Test.YtgljampcnbgbhaaGreatDoorHa
import Derived.Test.YtgljampcnbgbhaaGreatDoorHb
import Derived.Test.YtgljampcnbgbhaaGreatDoorHc
import Derived.Test.YtgljampcnbgbhaaGreatDoorHd
import Derived.Test.YtgljampcnbgbhaaGreatDoorHe
import Derived.Test.YtgljampcnbgbhaaGreatDoorHf
import Derived.Test.YtgljampcnbgbhaaGreatDoorHg
set_option linter.unusedVariables false
set_option linter.unusedSimpArgs false
namespace Go.Proofs.YtgljampcnbgbhaaGreatDoor.Ev
open Go Go.RowKit
set_option maxRecDepth 100000
theorem e_conv (ev : Operand → Value) (t : Int) (h0 : 0 ≤ t) (h1 : t ≤ 255) (w : World) (h : ev (.tmp 32) = .int .u8 t) : (execOp ev { dst := some 33, op := Op.convert 5 3 (Operand.tmp 32), type := 3, pos := "top30.go:551", after := #[{ on := 1, ground := Ground.data }], guard := none }).run Tryz.prog w = .ok (.value (.int .i64 t)) w := by
  have hw : IntKind.i64.wrap t = t := by unfold IntKind.wrap; simp [IntKind.bits]; omega
  have e : ∀ v, (execOp (fun _ => Value.int .u8 v) { dst := some 33, op := Op.convert 5 3 (Operand.tmp 32), type := 3, pos := "top30.go:551", after := #[{ on := 1, ground := Ground.data }], guard := none }).run Tryz.prog w = .ok (.value (.int .i64 (IntKind.i64.wrap v))) w := fun _ => by kernel_rfl
  have := e t
  rw [hw] at this
  simp only [execOp] at this ⊢
  rw [h]
  exact this
theorem e_lss (ev : Operand → Value) (k t : Int) (w : World) (h : ev (.tmp 31) = .int .i64 k) (h' : ev (.tmp 33) = .int .i64 t) : (execOp ev { dst := some 34, op := Op.binOp BinOp.lss 3 (Operand.tmp 31) (Operand.tmp 33) 3, type := 4, pos := "top30.go:551", after := #[{ on := 0, ground := Ground.data }, { on := 2, ground := Ground.data }], guard := none }).run Tryz.prog w = .ok (.value (.bool (decide (k < t)))) w := by
  simp only [execOp]
  rw [h, h']
  kernel_rfl
theorem e_len (ev : Operand → Value) (a : Option Addr) (l c : Nat) (w : World) (h : ev (.tmp 12) = .slice a l c) : (execOp ev { dst := some 13, op := Op.call { callee := Callee.builtin Builtin.len, args := #[Operand.tmp 12], argTypes := #[22] }, type := 3, pos := "top30.go:542", after := #[{ on := 0, ground := Ground.data }], guard := none }).run Tryz.prog w = .ok (.value (.int .i64 l)) w := by
  simp [execOp, resolve, h, invoke]
  kernel_rfl
theorem e_gtr (ev : Operand → Value) (l : Int) (w : World) (h : ev (.tmp 13) = .int .i64 l) (h' : ev (.const (.int .i64 (.ofNat 100))) = .int .i64 100) : (execOp ev { dst := some 14, op := Op.binOp BinOp.gtr 3 (Operand.tmp 13) (Operand.const (Value.int IntKind.i64 (Int.ofNat 100))) 3, type := 4, pos := "top30.go:542", after := #[{ on := 1, ground := Ground.data }], guard := none }).run Tryz.prog w = .ok (.value (.bool (decide (100 < l)))) w := by
  simp only [execOp]
  rw [h, h']
  kernel_rfl

/-- The states of the law's loop, by the ticks that went by. -/
inductive Ph : Nat → Int → Int → Nat → List (Nat × Blk) → List (Nat × Value) → Prop
  | s0 : Ph 0 2 2 452 S0 TS0
  | s1 : Ph 1 2 2 514 S1 TS1
  | l1 : Ph 19 2 2 1099 L1 TL1
  | s20 : Ph 20 2 2 1226 S20 TS20
  | l2 : Ph 59 2 2 1811 L2 TL2
  | s60 : Ph 60 2 2 1938 S60 TS60
  | l3 : Ph 139 2 2 2523 L3 TL3
  | s140 : Ph 140 2 2 2650 S140 TS140
  | i1 (k : Nat) (x y : Int) (h1 : 2 ≤ k) (h2 : k ≤ 18) (hx : x = k) (hy : y = 20 - k) : Ph k x y 1099 I1 TI1
  | i2 (k : Nat) (x y : Int) (h1 : 21 ≤ k) (h2 : k ≤ 58) (hx : x = k) (hy : y = 60 - k) : Ph k x y 1811 I2 TI2
  | i3 (k : Nat) (x y : Int) (h1 : 61 ≤ k) (h2 : k ≤ 138) (hx : x = k) (hy : y = 140 - k) : Ph k x y 2523 I3 TI3
  | i4 (k : Nat) (x y : Int) (h1 : 141 ≤ k) (h2 : k ≤ 256) (hx : x = k) (hy : y = 300 - k) : Ph k x y 3235 I4 TI4

section
variable {D : Value} {dr : Obj} {db n0 : Nat} {w0 : World} {ρ0 : Ren}
theorem Ph.good {k : Nat} {x y : Int} {cap : Nat} {S : List (Nat × Blk)} {T : List (Nat × Value)} (h : Ph k x y cap S T) (one : D.oneCell' = true) (nb : ∀ b, D ≠ .bool b) : (cx D dr db x y).Good := by
  cases h <;> exact cx_good one nb (by omega) (by omega) (by omega) (by omega)
theorem Ph.seven {k : Nat} {x y : Int} {cap : Nat} {S : List (Nat × Blk)} {T : List (Nat × Value)} (h : Ph k x y cap S T) (v : Value) : ∃ u f, (mkT T v).get 7 = some u ∧ formV idS u = some f ∧ evF (cx D dr db x y).X f = k := by
  cases h
  · exact ⟨.int .i64 (.ofNat 0), (none, 0), by kernel_rfl, rfl, rfl⟩
  · exact ⟨.int .i64 (.ofNat 1), (none, 1), by kernel_rfl, rfl, rfl⟩
  · exact ⟨.int .i64 (.ofNat 19), (none, 19), by kernel_rfl, rfl, rfl⟩
  · exact ⟨.int .i64 (.ofNat 20), (none, 20), by kernel_rfl, rfl, rfl⟩
  · exact ⟨.int .i64 (.ofNat 59), (none, 59), by kernel_rfl, rfl, rfl⟩
  · exact ⟨.int .i64 (.ofNat 60), (none, 60), by kernel_rfl, rfl, rfl⟩
  · exact ⟨.int .i64 (.ofNat 139), (none, 139), by kernel_rfl, rfl, rfl⟩
  · exact ⟨.int .i64 (.ofNat 140), (none, 140), by kernel_rfl, rfl, rfl⟩
  · exact ⟨.chan (some 51000), (some 0, 0), by kernel_rfl, by kernel_rfl, by show x + 0 = _; omega⟩
  · exact ⟨.chan (some 51000), (some 0, 0), by kernel_rfl, by kernel_rfl, by show x + 0 = _; omega⟩
  · exact ⟨.chan (some 51000), (some 0, 0), by kernel_rfl, by kernel_rfl, by show x + 0 = _; omega⟩
  · exact ⟨.chan (some 51000), (some 0, 0), by kernel_rfl, by kernel_rfl, by show x + 0 = _; omega⟩
theorem Ph.free {k : Nat} {x y : Int} {cap : Nat} {S : List (Nat × Blk)} {T : List (Nat × Value)} (h : Ph k x y cap S T) (v : Value) : (mkT T v).get 31 = none ∧ (mkT T v).get 32 = none ∧ (mkT T v).get 33 = none ∧ (mkT T v).get 34 = none := by
  cases h <;> exact ⟨by kernel_rfl, by kernel_rfl, by kernel_rfl, by kernel_rfl⟩
/-- Where the law's loop stands. -/
def Stand (D : Value) (dr : Obj) (db n0 : Nat) (w0 : World) (ρ0 : Ren) (k : Nat) (t : Int) (a : Act) (w : World) : Prop :=
  ∃ x y cap S T ρ, Ph k x y cap S T ∧ SR (cx D dr db x y) ρ Tryz.f3.ntmps [] (mkT T (.int .u8 t)) a ∧ At (cx D dr db x y) n0 w0 0 ρ0 cap S ρ w
section
variable {k : Nat} {t : Int} {a : Act} {w : World}
theorem Stand.at7 (h : Stand D dr db n0 w0 ρ0 k t a w) : a.tmps.getD 7 undef = .int .i64 k := by
  obtain ⟨x, y, cap, S, T, ρ, ph, hs, hat⟩ := h
  obtain ⟨u, f, h1, h2, h3⟩ := ph.seven (D := D) (dr := dr) (db := db) (.int .u8 t)
  rw [formV_r (two_id _) h2 (hs.tmps 7 u h1), h3]
theorem mkT_zero (T : List (Nat × Value)) (v : Value) : (mkT T v).get 0 = some v := by unfold mkT; rw [Tr.get_set, if_pos rfl]
theorem Stand.at0 (h : Stand D dr db n0 w0 ρ0 k t a w) : a.tmps.getD 0 undef = .int .u8 t := by
  obtain ⟨x, y, cap, S, T, ρ, ph, hs, hat⟩ := h
  exact VR_af 5 _ _ rfl (hs.tmps 0 _ (mkT_zero T _))
theorem Stand.size (h : Stand D dr db n0 w0 ρ0 k t a w) : 83 ≤ a.tmps.size := by
  obtain ⟨x, y, cap, S, T, ρ, ph, hs, hat⟩ := h
  have := hs.size
  rw [Tryz.ntmps3] at this
  exact this
theorem Stand.put (h : Stand D dr db n0 w0 ρ0 k t a w) {d : Nat} (hd : d = 31 ∨ d = 32 ∨ d = 33 ∨ d = 34) (v : Value) : Stand D dr db n0 w0 ρ0 k t (a.put (some d) v) w := by
  obtain ⟨x, y, cap, S, T, ρ, ph, hs, hat⟩ := h
  obtain ⟨f1, f2, f3, f4⟩ := ph.free (.int .u8 t)
  exact ⟨x, y, cap, S, T, ρ, ph, hs.beside (by rcases hd with rfl | rfl | rfl | rfl <;> assumption) v, hat⟩
theorem list_val {P : Program} {ops : Array Oper} {Q : Exit → Act → World → Prop} {o : Oper} {l : List Oper} {v : Value} (hg : o.guard = none) (h : (execOp a.eval o).run P w = .ok (.value v) w) (hn : wpList P ops Q l (a.put o.dst v) w) : wpList P ops Q (o :: l) a w := by
  unfold wpList
  rw [if_pos (by unfold Region.wanted; rw [hg])]
  left
  unfold Oper.wp
  rw [h, Oper.upon_value]
  exact hn
theorem eval_other {d e : Nat} (hne : e ≠ d) (v : Value) : (a.put (some d) v).eval (.tmp e) = a.eval (.tmp e) := by
  show (a.tmps.setIfInBounds d v).getD e undef = a.tmps.getD e undef
  simp only [Array.getD_eq_getD_getElem?]
  rw [Array.getElem?_setIfInBounds_ne (Ne.symm hne)]
theorem test_eq : nav [1, 1, 1, 1, 1, 1, 1, 0, 1, 0, 0, 0] (bodyOf Tryz.f3) = (Code.region 11 #[{ dst := some 31, op := Op.move (Operand.tmp 7), type := 3, pos := "top30.go:551", after := #[], guard := none }, { dst := some 32, op := Op.move (Operand.tmp 0), type := 5, pos := "top30.go:551", after := #[], guard := none }, { dst := some 33, op := Op.convert 5 3 (Operand.tmp 32), type := 3, pos := "top30.go:551", after := #[{ on := 1, ground := Ground.data }], guard := none }, { dst := some 34, op := Op.binOp BinOp.lss 3 (Operand.tmp 31) (Operand.tmp 33) 3, type := 4, pos := "top30.go:551", after := #[{ on := 0, ground := Ground.data }, { on := 2, ground := Ground.data }], guard := none }] false).seq (.cond (.tmp 34) .skip (.exit 0)) := by kernel_rfl
/-- Is another tick wanted? -/
theorem test (hi : Stand D dr db n0 w0 ρ0 k t a w) (h0 : 0 ≤ t) (h1 : t ≤ 255) {Q : Exit → Act → World → Prop} (hlt : (k : Int) < t → ∀ a', Stand D dr db n0 w0 ρ0 k t a' w → Q .normal a' w) (hge : ¬ (k : Int) < t → ∀ a', Stand D dr db n0 w0 ρ0 k t a' w → Q (.exit 0) a' w) : (nav [1, 1, 1, 1, 1, 1, 1, 0, 1, 0, 0, 0] (bodyOf Tryz.f3)).wp Tryz.prog Q a w := by
  rw [test_eq]
  have e7 := hi.at7
  have e0 := hi.at0
  have hsz := hi.size
  refine wp_seq (wp_region_list ?_)
  refine list_val rfl (v := a.eval (.tmp 7)) rfl ?_
  have i1 := hi.put (d := 31) (.inl rfl) (a.eval (.tmp 7))
  have e1 : (a.put (some 31) (a.eval (.tmp 7))).eval (.tmp 31) = .int .i64 k := by rw [eval_put (by omega)]; exact e7
  have e2 : (a.put (some 31) (a.eval (.tmp 7))).eval (.tmp 0) = .int .u8 t := by rw [eval_other (by decide)]; exact e0
  generalize a.put (some 31) (a.eval (.tmp 7)) = b at i1 e1 e2
  refine list_val rfl (v := b.eval (.tmp 0)) rfl ?_
  have i2 := i1.put (d := 32) (.inr (.inl rfl)) (b.eval (.tmp 0))
  have f1 : (b.put (some 32) (b.eval (.tmp 0))).eval (.tmp 31) = .int .i64 k := by rw [eval_other (by decide)]; exact e1
  have f2 : (b.put (some 32) (b.eval (.tmp 0))).eval (.tmp 32) = .int .u8 t := by rw [eval_put (by have := i1.size; omega)]; exact e2
  generalize b.put (some 32) (b.eval (.tmp 0)) = c at i2 f1 f2
  refine list_val rfl (v := .int .i64 t) (e_conv _ t h0 h1 w f2) ?_
  have i3 := i2.put (d := 33) (.inr (.inr (.inl rfl))) (.int .i64 t)
  have g1 : (c.put (some 33) (.int .i64 t)).eval (.tmp 31) = .int .i64 k := by rw [eval_other (by decide)]; exact f1
  have g2 : (c.put (some 33) (.int .i64 t)).eval (.tmp 33) = .int .i64 t := by rw [eval_put (by have := i2.size; omega)]
  show wpList Tryz.prog _ _ _ (c.put (some 33) (.int .i64 t)) w
  generalize c.put (some 33) (.int .i64 t) = d at i3 g1 g2
  refine list_val rfl (v := .bool (decide ((k : Int) < t))) (e_lss _ k t w g1 g2) ?_
  have i4 := i3.put (d := 34) (.inr (.inr (.inr rfl))) (.bool (decide ((k : Int) < t)))
  have m1 : (d.put (some 34) (.bool (decide ((k : Int) < t)))).eval (.tmp 34) = .bool (decide ((k : Int) < t)) := by rw [eval_put (by have := i3.size; omega)]
  show wpList Tryz.prog _ _ _ (d.put (some 34) (.bool (decide ((k : Int) < t)))) w
  generalize d.put (some 34) (.bool (decide ((k : Int) < t))) = e at i4 m1
  unfold wpList
  by_cases hk : (k : Int) < t
  · rw [decide_eq_true hk] at m1
    exact wp_cond_true m1 (wp_skip (hlt hk e i4))
  · rw [decide_eq_false hk] at m1
    exact wp_cond_false m1 (wp_exit (hge hk e i4))
/-- A tick. -/
theorem step (one : D.oneCell' = true) (nb : ∀ b, D ≠ .bool b) (hd : (cx D dr db 2 2).Draws) (hi : Stand D dr db n0 w0 ρ0 k t a w) (hk : k < 256) {Q : Exit → Act → World → Prop} (hQ : ∀ a' w', Stand D dr db n0 w0 ρ0 (k + 1) t a' w' → Q .normal a' w') : (nav [1, 1, 1, 1, 1, 1, 1, 0, 1, 0, 0, 1] (bodyOf Tryz.f3)).wp Tryz.prog Q a w := by
  obtain ⟨x, y, cap, S, T, ρ, ph, hs, hat⟩ := hi
  have good := ph.good (dr := dr) (db := db) one nb
  have call := called good rfl (cx_draws hd)
  cases ph
  · exact row1 good rfl call (dft0 _) rfl ⟨by decide, by decide⟩ (two_id _) hs hat fun ρ' a' w' s1 t1 => hQ a' w' ⟨_, _, _, _, _, ρ', .s1, s1, t1⟩
  · exact row1 good rfl call (dfin1 _) rfl ⟨by decide, by decide⟩ (two_kon _ rfl rfl rfl rfl) hs hat fun ρ' a' w' s1 t1 => hQ a' w' ⟨_, _, _, _, _, ρ', .i1 _ _ _ (by omega) (by omega) (by rfl) (by rfl), s1, t1⟩
  · exact row1 good rfl call (dft19 _) rfl ⟨by decide, by decide⟩ (two_id _) hs hat fun ρ' a' w' s1 t1 => hQ a' w' ⟨_, _, _, _, _, ρ', .s20, s1, t1⟩
  · exact row1 good rfl call (dfin2 _) rfl ⟨by decide, by decide⟩ (two_kon _ rfl rfl rfl rfl) hs hat fun ρ' a' w' s1 t1 => hQ a' w' ⟨_, _, _, _, _, ρ', .i2 _ _ _ (by omega) (by omega) (by rfl) (by rfl), s1, t1⟩
  · exact row1 good rfl call (dft59 _) rfl ⟨by decide, by decide⟩ (two_id _) hs hat fun ρ' a' w' s1 t1 => hQ a' w' ⟨_, _, _, _, _, ρ', .s60, s1, t1⟩
  · exact row1 good rfl call (dfin3 _) rfl ⟨by decide, by decide⟩ (two_kon _ rfl rfl rfl rfl) hs hat fun ρ' a' w' s1 t1 => hQ a' w' ⟨_, _, _, _, _, ρ', .i3 _ _ _ (by omega) (by omega) (by rfl) (by rfl), s1, t1⟩
  · exact row1 good rfl call (dft139 _) rfl ⟨by decide, by decide⟩ (two_id _) hs hat fun ρ' a' w' s1 t1 => hQ a' w' ⟨_, _, _, _, _, ρ', .s140, s1, t1⟩
  · exact row1 good rfl call (dfin4 _) rfl ⟨by decide, by decide⟩ (two_kon _ rfl rfl rfl rfl) hs hat fun ρ' a' w' s1 t1 => hQ a' w' ⟨_, _, _, _, _, ρ', .i4 _ _ _ (by omega) (by omega) (by rfl) (by rfl), s1, t1⟩
  · rename_i h1 h2 hx hy
    by_cases hl : k = 18
    · subst hl
      obtain rfl : x = 18 := by omega
      obtain rfl : y = 2 := by omega
      exact row1 good rfl call (dfout1 _) rfl ⟨by decide, by decide⟩ (two_out (x' := 2) (y' := 2)) hs hat fun ρ' a' w' s1 t1 => hQ a' w' ⟨_, _, _, _, _, ρ', .l1, s1, t1⟩
    · exact row1 good rfl call (dfid1 _) rfl ⟨by decide, by decide⟩ (two_on (x' := x + 1) (y' := y - 1) rfl rfl) hs hat fun ρ' a' w' s1 t1 => hQ a' w' ⟨_, _, _, _, _, ρ', .i1 _ _ _ (by omega) (by omega) (by omega) (by omega), s1, t1⟩
  · rename_i h1 h2 hx hy
    by_cases hl : k = 58
    · subst hl
      obtain rfl : x = 58 := by omega
      obtain rfl : y = 2 := by omega
      exact row1 good rfl call (dfout2 _) rfl ⟨by decide, by decide⟩ (two_out (x' := 2) (y' := 2)) hs hat fun ρ' a' w' s1 t1 => hQ a' w' ⟨_, _, _, _, _, ρ', .l2, s1, t1⟩
    · exact row1 good rfl call (dfid2 _) rfl ⟨by decide, by decide⟩ (two_on (x' := x + 1) (y' := y - 1) rfl rfl) hs hat fun ρ' a' w' s1 t1 => hQ a' w' ⟨_, _, _, _, _, ρ', .i2 _ _ _ (by omega) (by omega) (by omega) (by omega), s1, t1⟩
  · rename_i h1 h2 hx hy
    by_cases hl : k = 138
    · subst hl
      obtain rfl : x = 138 := by omega
      obtain rfl : y = 2 := by omega
      exact row1 good rfl call (dfout3 _) rfl ⟨by decide, by decide⟩ (two_out (x' := 2) (y' := 2)) hs hat fun ρ' a' w' s1 t1 => hQ a' w' ⟨_, _, _, _, _, ρ', .l3, s1, t1⟩
    · exact row1 good rfl call (dfid3 _) rfl ⟨by decide, by decide⟩ (two_on (x' := x + 1) (y' := y - 1) rfl rfl) hs hat fun ρ' a' w' s1 t1 => hQ a' w' ⟨_, _, _, _, _, ρ', .i3 _ _ _ (by omega) (by omega) (by omega) (by omega), s1, t1⟩
  · rename_i h1 h2 hx hy
    exact row1 good rfl call (dfid4 _) rfl ⟨by decide, by decide⟩ (two_on (x' := x + 1) (y' := y - 1) rfl rfl) hs hat fun ρ' a' w' s1 t1 => hQ a' w' ⟨_, _, _, _, _, ρ', .i4 _ _ _ (by omega) (by omega) (by omega) (by omega), s1, t1⟩
theorem body_eq : nav [1, 1, 1, 1, 1, 1, 1, 0, 1, 0, 0] (bodyOf Tryz.f3) = .seq (nav [1, 1, 1, 1, 1, 1, 1, 0, 1, 0, 0, 0] (bodyOf Tryz.f3)) (nav [1, 1, 1, 1, 1, 1, 1, 0, 1, 0, 0, 1] (bodyOf Tryz.f3)) := by kernel_rfl
/-- All ticks. -/
theorem ticks (one : D.oneCell' = true) (nb : ∀ b, D ≠ .bool b) (hd : (cx D dr db 2 2).Draws) (h0 : 0 ≤ t) (h1 : t ≤ 255) {Q : Exit → Act → World → Prop} (hQ : ∀ (k : Nat) a' w', (k : Int) = t → Stand D dr db n0 w0 ρ0 k t a' w' → Q (.exit 0) a' w') : ∀ (n k : Nat) (a : Act) (w : World), (k : Int) + n = t → Stand D dr db n0 w0 ρ0 k t a w → Code.rounds Tryz.prog (nav [1, 1, 1, 1, 1, 1, 1, 0, 1, 0, 0] (bodyOf Tryz.f3)) Q (n + 1) a w := by
  intro n
  induction n with
  | zero =>
    intro k a w hk hi
    rw [rounds_succ, body_eq]
    refine wp_seq (test hi h0 h1 (fun hlt => by omega) fun _ a' i1 => ?_)
    exact hQ k a' w (by omega) i1
  | succ n ih =>
    intro k a w hk hi
    rw [rounds_succ, body_eq]
    refine wp_seq (test hi h0 h1 (fun hlt a' i1 => ?_) fun hge => by omega)
    exact step one nb hd i1 (by omega) fun a' w' i2 => ih (k + 1) a' w' (by omega) i2
/-- Behind the ticks. -/
theorem behind (one : D.oneCell' = true) (nb : ∀ b, D ≠ .bool b) (hd : (cx D dr db 2 2).Draws) (hk : (k : Int) = t) (hi : Stand D dr db n0 w0 ρ0 k t a w) {Q : Exit → Act → World → Prop} (hQ : ∀ C ρ' ρ1 U' a' w', U'.get 4 = some (.bool true) → SR C ρ1 Tryz.f3.ntmps [] U' a' → At C n0 w0 0 ρ0 16 [] ρ' w' → Q .ret a' w') : (inRow [nav [1, 1, 1, 1, 1, 1, 1, 1, 0] (bodyOf Tryz.f3), nav [1, 1, 1, 1, 1, 1, 1, 1, 1, 0] (bodyOf Tryz.f3)] (nav [1, 1, 1, 1, 1, 1, 1, 1, 1, 1] (bodyOf Tryz.f3))).wp Tryz.prog Q a w := by
  obtain ⟨x, y, cap, S, T, ρ, ph, hs, hat⟩ := hi
  have good := ph.good (dr := dr) (db := db) one nb
  have call := called good rfl (cx_draws hd)
  cases ph
  · obtain rfl : t = 0 := by omega
    exact row good rfl call (dfPS0 _) rfl ⟨by decide, by decide⟩ (two_id _) hs hat fun ρ' a' w' s1 t1 => ending good rfl call dfES0 s1 t1 fun ρ' U' a' w' h1 h2 h3 => hQ _ _ _ _ _ _ h1 h2 h3
  · obtain rfl : t = 1 := by omega
    exact row good rfl call (dfPS1 _) rfl ⟨by decide, by decide⟩ (two_id _) hs hat fun ρ' a' w' s1 t1 => ending good rfl call dfES1 s1 t1 fun ρ' U' a' w' h1 h2 h3 => hQ _ _ _ _ _ _ h1 h2 h3
  · exact row good rfl call (dfPL1 _) rfl ⟨by decide, by decide⟩ (two_id _) hs hat fun ρ' a' w' s1 t1 => ending good rfl call (dfEL1 _) s1 t1 fun ρ' U' a' w' h1 h2 h3 => hQ _ _ _ _ _ _ h1 h2 h3
  · exact row good rfl call (dfPS20 _) rfl ⟨by decide, by decide⟩ (two_id _) hs hat fun ρ' a' w' s1 t1 => ending good rfl call (dfES20 _) s1 t1 fun ρ' U' a' w' h1 h2 h3 => hQ _ _ _ _ _ _ h1 h2 h3
  · exact row good rfl call (dfPL2 _) rfl ⟨by decide, by decide⟩ (two_id _) hs hat fun ρ' a' w' s1 t1 => ending good rfl call (dfEL2 _) s1 t1 fun ρ' U' a' w' h1 h2 h3 => hQ _ _ _ _ _ _ h1 h2 h3
  · exact row good rfl call (dfPS60 _) rfl ⟨by decide, by decide⟩ (two_id _) hs hat fun ρ' a' w' s1 t1 => ending good rfl call (dfES60 _) s1 t1 fun ρ' U' a' w' h1 h2 h3 => hQ _ _ _ _ _ _ h1 h2 h3
  · exact row good rfl call (dfPL3 _) rfl ⟨by decide, by decide⟩ (two_id _) hs hat fun ρ' a' w' s1 t1 => ending good rfl call (dfEL3 _) s1 t1 fun ρ' U' a' w' h1 h2 h3 => hQ _ _ _ _ _ _ h1 h2 h3
  · exact row good rfl call (dfPS140 _) rfl ⟨by decide, by decide⟩ (two_id _) hs hat fun ρ' a' w' s1 t1 => ending good rfl call (dfES140 _) s1 t1 fun ρ' U' a' w' h1 h2 h3 => hQ _ _ _ _ _ _ h1 h2 h3
  · exact row good rfl call (dfPI1 _) rfl ⟨by decide, by decide⟩ (two_id _) hs hat fun ρ' a' w' s1 t1 => ending good rfl call (dfEI1 _) s1 t1 fun ρ' U' a' w' h1 h2 h3 => hQ _ _ _ _ _ _ h1 h2 h3
  · exact row good rfl call (dfPI2 _) rfl ⟨by decide, by decide⟩ (two_id _) hs hat fun ρ' a' w' s1 t1 => ending good rfl call (dfEI2 _) s1 t1 fun ρ' U' a' w' h1 h2 h3 => hQ _ _ _ _ _ _ h1 h2 h3
  · exact row good rfl call (dfPI3 _) rfl ⟨by decide, by decide⟩ (two_id _) hs hat fun ρ' a' w' s1 t1 => ending good rfl call (dfEI3 _) s1 t1 fun ρ' U' a' w' h1 h2 h3 => hQ _ _ _ _ _ _ h1 h2 h3
  · exact row good rfl call (dfPI4 _) rfl ⟨by decide, by decide⟩ (two_id _) hs hat fun ρ' a' w' s1 t1 => ending good rfl call (dfEI4 _) s1 t1 fun ρ' U' a' w' h1 h2 h3 => hQ _ _ _ _ _ _ h1 h2 h3
end
end
end Go.Proofs.YtgljampcnbgbhaaGreatDoor.Ev
