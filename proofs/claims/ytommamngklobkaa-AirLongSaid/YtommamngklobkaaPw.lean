/- The example of the place's laws, awake (contract): returns true. No conditions. -/
import Derived.Test.YtommamngklobkaaPh
namespace Go.Proofs.Ytommamngklobkaa
open Go.RowKit
theorem StW.put {cs : Array Value} {j : Nat} {a c r : Int} {x y : Nat} (h : j * 2 + 1 < cs.size) (k : CI a c x y) :
    StW ((cs.setIfInBounds (j * 2) (.complex .f64 x y)).setIfInBounds (j * 2 + 1) (.int .i64 r)) j a c x y r := by
  refine ⟨?_, ?_, k⟩
  · rw [Array.getElem?_setIfInBounds_ne (by omega), Array.getElem?_setIfInBounds_self]
    rw [if_pos (by omega)]
  · rw [Array.getElem?_setIfInBounds_self, if_pos (by simpa using h)]
theorem put_other {cs : Array Value} {j i : Nat} (v v' : Value) (h : i ≠ j) :
    ((cs.setIfInBounds (j * 2) v).setIfInBounds (j * 2 + 1) v')[i * 2]? = cs[i * 2]? ∧ ((cs.setIfInBounds (j * 2) v).setIfInBounds (j * 2 + 1) v')[i * 2 + 1]? = cs[i * 2 + 1]? := by
  refine ⟨?_, ?_⟩
  · rw [Array.getElem?_setIfInBounds_ne (by omega), Array.getElem?_setIfInBounds_ne (by omega)]
  · rw [Array.getElem?_setIfInBounds_ne (by omega), Array.getElem?_setIfInBounds_ne (by omega)]
theorem StW.keep {cs : Array Value} {j i : Nat} {a c r : Int} {x y : Nat} (s : StW cs i a c x y r) (v v' : Value) (h : i ≠ j) : StW ((cs.setIfInBounds (j * 2) v).setIfInBounds (j * 2 + 1) v') i a c x y r :=
  ⟨(put_other v v' h).1.trans s.at0, (put_other v v' h).2.trans s.at1, s.ci⟩
/-- What was turned was of L, or new. -/
theorem Only.trans_new {L M : List Nat} {a b c : World} (h : Only L a b) (k : Only M b c) (hM : ∀ x ∈ M, x ∈ L ∨ a.heap.size ≤ x) : Only L a c :=
  ⟨k.os.trans h.os, k.tape.trans h.tape, k.output.trans h.output, Nat.le_trans h.size k.size, fun i hi hL => (k.block i (Nat.lt_of_lt_of_le hi h.size) (fun hx => by
    rcases hM i hx with h1 | h1
    · exact hL h1
    · omega)).trans (h.block i hi hL)⟩
theorem FI_three : FI 3 4613937818241073152 := FI_int 3 (by decide)
theorem FI_four : FI 4 4616189618054758400 := FI_int 4 (by decide)
theorem one_of : ((0 : Nat) : Int) + 1 = 1 := rfl
theorem two_of : ((1 : Nat) : Int) + 1 = 2 := rfl
set_option maxHeartbeats 1000000 in
theorem awake14 (w : World) : Calls Try.prog 6 #[] w fun e w' => e = .returned (.bool true) ∧ Only [] w w' := by
  go_enter Try.func6, Try.ntmps6
  go_wp2_with fail
  refine (new7 2 _ (by omega) (by omega)).mono ?_
  rintro e w1 ⟨rfl, ⟨cs, hp, hc⟩, ho⟩
  have z1 : w.heap.size ≤ w.heap.size := Nat.le_refl _
  generalize w.heap.size + 2 = b at *
  have hs0 := (hc 0 (by omega))
  have hs1 := (hc 1 (by omega))
  have hz := hp.size
  have k1 := stand8 b _ _ 2 0 cs 0 0 5 0 0 0 _ w1 hp hs0.1 hs0.2 ⟨FI_zero, FI_zero⟩ (by omega) (by decide) (by omega) (by omega)
  rw [one_of] at k1
  have H := Lib.hid hs1
  have O := Lib.hid ho
  have Z := Lib.hid hz
  clear hs0 hs1 hc hz hp ho z1
  go_wp2_with fail
  refine k1.mono ?_
  rintro e w2 ⟨rfl, hp, ho2⟩
  have k2 := stand8 b _ _ 2 1 _ 3 4 0 0 4613937818241073152 4616189618054758400 _ w2 hp ((put_other _ _ (by omega)).1.trans H.out.1) ((put_other _ _ (by omega)).2.trans H.out.2) ⟨FI_three, FI_four⟩ (by omega) (by decide) (by omega) (by omega)
  rw [two_of] at k2
  have O2 := Lib.hid ho2
  clear hp ho2 k1
  go_wp2_with fail
  refine k2.mono ?_
  rintro e w3 ⟨rfl, hp, ho3⟩
  have e1 : StW _ 1 3 4 4613937818241073152 4616189618054758400 0 := StW.put (cs := (cs.setIfInBounds (0 * 2) (.complex .f64 0 0)).setIfInBounds (0 * 2 + 1) (.int .i64 5)) (j := 1) (r := 0) (by have := Z.out; simp; omega) ⟨FI_three, FI_four⟩
  have e0 : StW _ 0 0 0 0 0 5 := (StW.put (cs := cs) (j := 0) (r := 5) (x := 0) (y := 0) (by have := Z.out; omega) ⟨FI_zero, FI_zero⟩).keep (j := 1) (.complex .f64 4613937818241073152 4616189618054758400) (.int .i64 0) (by omega)
  have O3 := Lib.hid ((O.out.trans_new O2.out (by simp)).trans_new ho3 (by simp))
  have h1 := hears22 b _ _ 2 1 0 _ 3 4 0 0 0 5 _ _ _ _ w3 hp e1 e0 (by omega) (by omega) (by omega) (by decide) (by decide) (by omega) (by omega)
  rw [two_of, one_of] at h1
  have P := Lib.hid hp
  have E1 := Lib.hid e1
  have E0 := Lib.hid e0
  clear hp e1 e0 ho3 k2 O2 O H Z
  go_wp2_with fail
  refine h1.mono ?_
  rintro e w4 ⟨rfl, ho4⟩
  have h2 := hears22 b _ _ 2 0 1 _ 0 0 3 4 5 0 _ _ _ _ w4 (P.out.only ho4 (by simp) (by simp) (by simp)) E0.out E1.out (by omega) (by omega) (by omega) (by decide) (by decide) (by omega) (by omega)
  rw [two_of, one_of] at h2
  have O4 := Lib.hid (O3.out.trans_new ho4 (by simp))
  clear h1 O3 ho4 E0 E1 P
  go_wp2_with fail
  refine h2.mono ?_
  rintro e w5 ⟨rfl, ho5⟩
  have O5 := Lib.hid (O4.out.trans_new ho5 (by simp))
  clear h2 O4 ho5
  go_wp2
  go_ret
  exact ⟨rfl, O5.out⟩
end Go.Proofs.Ytommamngklobkaa
