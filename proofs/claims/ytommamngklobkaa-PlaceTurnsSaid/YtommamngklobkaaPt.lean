/- PlaceTurns walked: it returns true for every input (contract). No conditions but that the four numbers are of Go's int16. -/
import Derived.Test.YtommamngklobkaaPw
import Derived.BigRegion
namespace Go.Proofs.Ytommamngklobkaa
open Go.RowKit
set_option linter.unusedVariables false
theorem FI_same {n : Int} {x y : Nat} (h : FI n x) (k : FI n y) : FloatKind.f64.format.order x y = some Ordering.eq := by
  have := FI_order h k
  rw [Int.compare_eq_eq.2 rfl] at this
  exact this
def pos (a c d f : Int) : Nat → Int × Int
  | 0 => (a, c)
  | k + 1 => (d - ((pos a c d f k).2 - f), f + ((pos a c d f k).1 - d))
theorem pos_four (a c d f : Int) : pos a c d f 4 = (a, c) := by simp [pos]; omega
theorem pos_far (a c d f : Int) (k : Nat) : ((pos a c d f k).1 - d) * ((pos a c d f k).1 - d) + ((pos a c d f k).2 - f) * ((pos a c d f k).2 - f) = (a - d) * (a - d) + (c - f) * (c - f) := by
  induction k with
  | zero => rfl
  | succ k ih =>
    rw [← ih]
    show (d - ((pos a c d f k).2 - f) - d) * (d - ((pos a c d f k).2 - f) - d) + (f + ((pos a c d f k).1 - d) - f) * (f + ((pos a c d f k).1 - d) - f) = _
    rw [show d - ((pos a c d f k).2 - f) - d = -((pos a c d f k).2 - f) by omega, show f + ((pos a c d f k).1 - d) - f = (pos a c d f k).1 - d by omega, Int.neg_mul_neg]
    omega
def Pos (w : World) (b s m : Nat) (a c d f : Int) (k : Nat) (wr : World) : Prop :=
  ∃ cs x y, PlW wr b s m 1 cs ∧ StW cs 0 (pos a c d f k).1 (pos a c d f k).2 x y 3 ∧ wiB (pos a c d f k).1 (pos a c d f k).2 1000 = true ∧ Only [] w wr
theorem tmod_bd (x : Int) : -1000 ≤ x.tmod 1001 ∧ x.tmod 1001 ≤ 1000 := by
  have := Int.tmod_lt_of_pos x (b := 1001) (by omega)
  have h2 := Int.lt_tmod_of_pos x (b := 1001) (by omega)
  omega
set_option maxHeartbeats 1000000 in
theorem walk3 (x0 y0 x1 y1 : Int) (w : World) (wx0 : (Lit.int .i16 x0).wf = true) (wy0 : (Lit.int .i16 y0).wf = true) (wx1 : (Lit.int .i16 x1).wf = true) (wy1 : (Lit.int .i16 y1).wf = true) :
    Calls Try.prog 3 #[.agg #[.int .i16 x0, .int .i16 y0], .agg #[.int .i16 x1, .int .i16 y1]] w fun e w' => e = .returned (.bool true) ∧ Below w.heap.size w w' := by
  have b1 := tmod_bd (wrap64 x0)
  have b2 := tmod_bd (wrap64 y0)
  have b3 := tmod_bd (wrap64 x1)
  have b4 := tmod_bd (wrap64 y1)
  have f1 := FI_int ((wrap64 x0).tmod 1001) (by omega)
  have f2 := FI_int ((wrap64 y0).tmod 1001) (by omega)
  have f3 := FI_int ((wrap64 x1).tmod 1001) (by omega)
  have f4 := FI_int ((wrap64 y1).tmod 1001) (by omega)
  have F1 := Lib.hid f1
  have F2 := Lib.hid f2
  have F3 := Lib.hid f3
  have F4 := Lib.hid f4
  clear f1 f2 f3 f4
  go_enter Try.func3, Try.ntmps3
  go_wp2_with fail
  refine (awake14 _).mono ?_
  rintro e w1 ⟨rfl, ho1⟩
  have O1 := Lib.hid ((((Only.refl [] w).alloc _).alloc _).trans ho1)
  have g1 := ho1.heap (heap_old (heap_new w (.cells #[.int .i16 x0, .int .i16 y0] 23)) (.cells #[.int .i16 x1, .int .i16 y1] 23)) (by simp)
  have g2 := ho1.heap (heap_new (w.alloc (.cells #[.int .i16 x0, .int .i16 y0] 23)) (.cells #[.int .i16 x1, .int .i16 y1] 23)) (by simp)
  rw [show (w.alloc (.cells #[.int .i16 x0, .int .i16 y0] 23)).heap.size = w.heap.size + 1 by simp] at g2
  clear ho1
  go_wp2_with fail
  refine (new7 1 _ (by omega) (by omega)).mono ?_
  rintro e w2 ⟨rfl, ⟨cs, hp, hc⟩, ho⟩
  have g3 := ho.heap g1 (by simp)
  have g4 := ho.heap g2 (by simp)
  have O2 := Lib.hid (O1.out.trans ho)
  have hlt := hp.lt
  have z1 : w.heap.size ≤ w1.heap.size := O1.out.size
  clear ho g1 g2 O1
  generalize w1.heap.size + 2 = b at *
  generalize w1.heap.size + 1 = m at *
  generalize w1.heap.size = s at *
  have c1 := (cell_of g3 0).trans (show _ = some (.int .i16 x0) from rfl)
  have c2 := (cell_of g3 1).trans (show _ = some (.int .i16 y0) from rfl)
  have c3 := (cell_of g4 0).trans (show _ = some (.int .i16 x1) from rfl)
  have c4 := (cell_of g4 1).trans (show _ = some (.int .i16 y1) from rfl)
  have HP := Lib.hid hp
  have HC := Lib.hid (hc 0 (by omega))
  clear hp hc g3 g4
  go_wp2
  go_quiet (fail)
  have O3 := Lib.hid (O2.out.drewN nq)
  have hp : PlW (w2.drewN nq) b s m 1 cs := HP.out.only ((Only.refl [] w2).drewN nq) (by simp) (by simp) (by simp)
  have q1 := F1.out
  have q2 := F2.out
  have q3 := F3.out
  have q4 := F4.out
  clear F1 F2 F3 F4 c1 c2 c3 c4 HP O2
  generalize w2.drewN nq = w3 at *
  generalize floatOfInt FloatKind.f64 ((wrap64 x0).tmod 1001) = p at *
  generalize floatOfInt FloatKind.f64 ((wrap64 y0).tmod 1001) = q at *
  generalize floatOfInt FloatKind.f64 ((wrap64 x1).tmod 1001) = u at *
  generalize floatOfInt FloatKind.f64 ((wrap64 y1).tmod 1001) = v at *
  generalize (wrap64 x0).tmod 1001 = a at *
  generalize (wrap64 y0).tmod 1001 = c at *
  generalize (wrap64 x1).tmod 1001 = d at *
  generalize (wrap64 y1).tmod 1001 = f at *
  have ka : CI a c p q := ⟨q1, q2⟩
  have kd : CI d f u v := ⟨q3, q4⟩
  have hz := hp.size
  have k8 := stand8 b s m 1 0 cs a c 3 _ p q _ w3 hp HC.out.1 HC.out.2 ka (by omega) (wiB_yes b1 b2) (by omega) (by omega)
  rw [one_of] at k8
  have KA := Lib.hid ka
  have KD := Lib.hid kd
  have S0 := Lib.hid (StW.put (cs := cs) (j := 0) (r := 3) (by omega) ka)
  have B12 := Lib.hid (wiB_yes b1 b2)
  have B34 := Lib.hid (wiB_yes b3 b4)
  clear q1 q2 q3 q4 ka kd hz hp HC hlt
  go_wp2_with fail
  refine k8.mono ?_
  rintro e w4 ⟨rfl, hp, ho⟩
  have P := Lib.hid hp
  have O4 := Lib.hid (O3.out.trans_new ho (by simp; omega))
  clear hp ho k8 O3
  have k9 := apart9 a c d f p q u v w4 KA.out KD.out b1 b2 b3 b4
  go_wp2_with fail
  refine k9.mono ?_
  rintro e w5 ⟨rfl, rfl⟩
  clear k9
  have far := pos_far a c d f
  have far0 : 0 ≤ (a - d) * (a - d) + (c - f) * (c - f) := by
    have g : ∀ z : Int, 0 ≤ z * z := fun z => by rcases Int.le_total 0 z with h | h; exact Int.mul_nonneg h h; exact Int.mul_nonneg_of_nonpos_of_nonpos h h
    have := g (a - d); have := g (c - f); omega
  have FAR := Lib.hid far
  clear far
  generalize (a - d) * (a - d) + (c - f) * (c - f) = R at *
  have start : Pos w b s m a c d f 0 w4 := ⟨_, p, q, P.out, S0.out, B12.out, O4.out⟩
  clear P S0 O4
  go_wp2
  go_loopw [10] (fun i wr => ∃ k : Nat, k ≤ 4 ∧ i = .int .i64 k ∧ Pos w b s m a c d f k wr) (fun i _ => 4 - (intOf i).toNat)
  case atStart => exact ⟨0, by omega, rfl, start⟩
  case round =>
    obtain ⟨k, hk, rfl, cs, x, y, hp, hst, hwi, ho⟩ := hrel
    clear start
    have fk := FAR.out k
    have sx := FI_same hst.ci.1 hst.ci.1
    have sy := FI_same hst.ci.2 hst.ci.2
    have hs0 : w.heap.size ≤ s := by omega
    have Z1 := Lib.hid hs0
    clear z1 hs0
    by_cases hlt : k < 4
    · have nxt : pos a c d f (k + 1) = (d - ((pos a c d f k).2 - f), f + ((pos a c d f k).1 - d)) := rfl
      have fn := FAR.out (k + 1)
      rw [nxt] at fn
      have NX := Lib.hid nxt
      clear nxt
      generalize (pos a c d f k).1 = X at *
      generalize (pos a c d f k).2 = Y at *
      have hz := hp.size
      have k10 := at10 b s m 1 0 cs X Y 3 x y wr hp hst (by omega)
      rw [one_of] at k10
      have P := Lib.hid hp
      have S := Lib.hid hst
      have O := Lib.hid ho
      have W1 := Lib.hid hwi
      have FK := Lib.hid fk
      have FN := Lib.hid fn
      have hz0 : 0 * 2 + 1 < cs.size := by omega
      have SZ := Lib.hid hz0
      clear hp hst ho hwi fk fn hz hz0
      go_wp2_with fail
      refine k10.mono ?_
      rintro e w5 ⟨rfl, ho⟩
      have P1 := Lib.hid (P.out.only ho (by simp) (by simp) (by simp))
      have O1 := Lib.hid (O.out.trans ho)
      clear ho k10 P O
      by_cases hin : wiB (d - (Y - f)) (f + (X - d)) 1000 = true
      · have k11 := turn11 b s m 1 0 cs X Y d f 3 x y u v w5 P1.out S.out KD.out (by omega) W1.out B34.out hin
        rw [one_of] at k11
        have HI := Lib.hid hin
        clear hin
        go_wp2_with fail
        refine k11.mono ?_
        rintro e w6 ⟨rfl, p1, q1, hci, hp, ho⟩
        have hst : StW (cs.setIfInBounds (0 * 2) (.complex .f64 p1 q1)) 0 (d - (Y - f)) (f + (X - d)) p1 q1 3 :=
          ⟨by rw [Array.getElem?_setIfInBounds_self, if_pos (by have := SZ.out; omega)], by rw [Array.getElem?_setIfInBounds_ne (by omega)]; exact S.out.at1, hci⟩
        have k10 := at10 b s m 1 0 _ _ _ 3 p1 q1 w6 hp hst (by omega)
        rw [one_of] at k10
        have O2 := Lib.hid (O1.out.trans_new ho (by have := Z1.out; simp; omega))
        have P2 := Lib.hid hp
        have S2 := Lib.hid hst
        have CI2 := Lib.hid hci
        clear hci hp ho hst k11 O1 P1 S
        go_wp2_with fail
        refine k10.mono ?_
        rintro e w7 ⟨rfl, ho⟩
        have P3 := Lib.hid (P2.out.only ho (by simp) (by simp) (by simp))
        have O3 := Lib.hid (O2.out.trans ho)
        clear ho k10 P2 O2
        have hb := wiB_iff.1 HI.out
        have k9 := apart9 _ _ d f p1 q1 u v w7 CI2.out KD.out hb.1 hb.2 b3 b4
        rw [FN.out] at k9
        clear hb
        go_wp2_with fail
        refine k9.mono ?_
        rintro e w8 ⟨rfl, rfl⟩
        clear k9
        go_wp2
        go_roundw
        case rel => exact ⟨k + 1, by omega, by go_num, _, p1, q1, P3.out, by rw [NX.out]; exact S2.out, by rw [NX.out]; exact HI.out, O3.out⟩
        case measure => simp [intOf]; omega
      · have k11 := turn11_no b s m 1 0 cs X Y d f 3 x y u v w5 P1.out S.out KD.out (by omega) W1.out B34.out (by simpa using hin)
        rw [one_of] at k11
        clear hin
        go_wp2_with fail
        refine k11.mono ?_
        rintro e w6 ⟨rfl, ho⟩
        have hp := P1.out.only ho (by simp) (by simp) (by simp)
        have k10 := at10 b s m 1 0 _ _ _ 3 x y w6 hp S.out (by omega)
        rw [one_of] at k10
        have O2 := Lib.hid (O1.out.trans ho)
        clear ho hp k11 O1 P1
        go_wp2_with fail
        refine k10.mono ?_
        rintro e w7 ⟨rfl, ho⟩
        have O3 := Lib.hid (O2.out.trans ho)
        clear ho k10 O2
        go_wp2
        go_ret
        exact ⟨rfl, O3.out.os, O3.out.tape, O3.out.output, O3.out.size, fun i hi => O3.out.block i hi (by simp)⟩
    · obtain rfl : k = 4 := by omega
      rw [pos_four] at hst
      clear fk hlt hwi FAR
      have e1 : FloatKind.f64.format.order x p = some Ordering.eq := FI_same hst.ci.1 KA.out.1
      have e2 : FloatKind.f64.format.order y q = some Ordering.eq := FI_same hst.ci.2 KA.out.2
      obtain ⟨p1, q1, ee1, gg1⟩ := CI_sub KD.out KA.out (by omega) (by omega)
      obtain ⟨p2, q2, ee2, gg2⟩ := CI_sub KA.out KD.out (by omega) (by omega)
      have cc1 := fun w => run_complex_sum (P := Try.prog) w .sub (Or.inr rfl) 29 .f64 u v p q p1 q1 ee1
      have cc2 := fun w => run_complex_sum (P := Try.prog) w .sub (Or.inr rfl) 29 .f64 p q u v p2 q2 ee2
      clear ee1 ee2
      have k10 := at10 b s m 1 0 cs a c 3 x y wr hp hst (by omega)
      rw [one_of] at k10
      have hz := hp.size
      have hz0 : 0 * 2 + 1 < cs.size := by omega
      have SZ := Lib.hid hz0
      have P := Lib.hid hp
      have S := Lib.hid hst
      have O := Lib.hid ho
      have G1 := Lib.hid gg1
      have G2 := Lib.hid gg2
      clear hp hst ho hz hz0 gg1 gg2 hk
      go_wp2_with fail
      refine k10.mono ?_
      rintro e w5 ⟨rfl, ho⟩
      have P1 := P.out.only ho (by simp) (by simp) (by simp)
      have O1 := Lib.hid (O.out.trans ho)
      have k12 := move12 b s m 1 0 cs a c (d - a) (f - c) 3 x y p1 q1 w5 P1 S.out G1.out (by omega) B12.out (wiB_yes (by omega) (by omega)) (wiB_yes (by omega) (by omega))
      rw [one_of, show a + (d - a) = d by omega, show c + (f - c) = f by omega] at k12
      clear ho k10 P O P1
      go_wp2_with fail
      refine k12.mono ?_
      rintro e w6 ⟨rfl, p3, q3, hci, hp, ho⟩
      have e3 : FloatKind.f64.format.order p3 u = some Ordering.eq := FI_same hci.1 KD.out.1
      have e4 : FloatKind.f64.format.order q3 v = some Ordering.eq := FI_same hci.2 KD.out.2
      have hst : StW (cs.setIfInBounds (0 * 2) (.complex .f64 p3 q3)) 0 d f p3 q3 3 :=
        ⟨by rw [Array.getElem?_setIfInBounds_self, if_pos (by have := SZ.out; omega)], by rw [Array.getElem?_setIfInBounds_ne (by omega)]; exact S.out.at1, hci⟩
      have k10 := at10 b s m 1 0 _ _ _ 3 p3 q3 w6 hp hst (by omega)
      rw [one_of] at k10
      have O2 := Lib.hid (O1.out.trans_new ho (by have := Z1.out; simp; omega))
      have P2 := Lib.hid hp
      have S2 := Lib.hid hst
      clear hci hp ho hst k12 O1 S SZ
      go_wp2_with fail
      refine k10.mono ?_
      rintro e w7 ⟨rfl, ho⟩
      have P3 := P2.out.only ho (by simp) (by simp) (by simp)
      have O3 := Lib.hid (O2.out.trans ho)
      have k12 := move12 b s m 1 0 _ d f (a - d) (c - f) 3 p3 q3 p2 q2 w7 P3 S2.out G2.out (by omega) B34.out (wiB_yes (by omega) (by omega)) (wiB_yes (by omega) (by omega))
      rw [one_of] at k12
      clear ho k10 P2 O2 P3
      go_wp2_with fail
      refine k12.mono ?_
      rintro e w8 ⟨rfl, p4, q4, hci, hp, ho⟩
      have O4 := Lib.hid (O3.out.trans_new ho (by have := Z1.out; simp; omega))
      clear hci hp ho k12 O3 S2
      go_wp2
      go_ret
      exact ⟨by simp, O4.out.os, O4.out.tape, O4.out.output, O4.out.size, fun i hi => O4.out.block i hi (by simp)⟩
end Go.Proofs.Ytommamngklobkaa
