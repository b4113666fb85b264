/- Whole numbers below 2^53 as words of double: sums, products and comparisons of them are exact, whatever the sign of a zero. No conditions but those that each theorem names. -/
import Derived.Laws.FloatArith
import Derived.Laws.ComplexArith
namespace Go.Proofs.Ytommamngklobkaa
open Ieee
set_option linter.unusedVariables false

theorem log2_mul_pow (a q : Nat) (ha : a ≠ 0) : (a * 2 ^ q).log2 = a.log2 + q := by
  have h1 := Nat.log2_self_le ha
  have h2 := Nat.lt_log2_self (n := a)
  have hne : a * 2 ^ q ≠ 0 := Nat.mul_ne_zero ha (by have := Nat.two_pow_pos q; omega)
  rw [Nat.log2_eq_iff hne]
  constructor
  · rw [Nat.pow_add]; exact Nat.mul_le_mul_right _ h1
  · rw [show a.log2 + q + 1 = (a.log2 + 1) + q by omega, Nat.pow_add]
    exact Nat.mul_lt_mul_of_pos_right h2 (Nat.two_pow_pos q)

/-- A word that stands for the whole number n (a zero may have either sign). -/
def FI (n : Int) (b : Nat) : Prop := ∃ (neg : Bool) (q : Nat), double.read b = .number neg (n.natAbs * 2 ^ q) (-(q : Int)) ∧ (n < 0 → neg = true) ∧ (0 < n → neg = false)

theorem cut_even_exact (neg : Bool) (x d : Nat) (h : x = 0 ∨ d ≤ (x * 2 ^ d).log2 + 2) : Toward.even.cut neg (x * 2 ^ d) d = x := by
  unfold Toward.cut
  simp only [Nat.shiftLeft_eq, Nat.one_mul]
  rcases h with rfl | h
  · simp
  · rw [Nat.min_eq_left h, Nat.mul_div_cancel _ (Nat.two_pow_pos d), Nat.mul_mod_left]
    have := Nat.two_pow_pos d
    simp
theorem cut_zero_exact (neg : Bool) (x d : Nat) (h : x = 0 ∨ d ≤ (x * 2 ^ d).log2 + 2) : Toward.zero.cut neg (x * 2 ^ d) d = x := by
  unfold Toward.cut
  simp only [Nat.shiftLeft_eq, Nat.one_mul]
  rcases h with rfl | h
  · simp
  · rw [Nat.min_eq_left h, Nat.mul_div_cancel _ (Nat.two_pow_pos d)]
    simp
theorem log2_lt53 {a : Nat} (ha0 : a ≠ 0) (ha : a < 2 ^ 53) : a.log2 ≤ 52 := by
  have h1 := Nat.log2_self_le ha0
  by_cases h : a.log2 ≤ 52
  · exact h
  · have : 2 ^ 53 ≤ 2 ^ a.log2 := Nat.pow_le_pow_right (by omega) (by omega)
    omega
theorem kept_bounds {a : Nat} (ha0 : a ≠ 0) (hl : a.log2 ≤ 52) : 2 ^ 52 ≤ a * 2 ^ (52 - a.log2) ∧ a * 2 ^ (52 - a.log2) < 2 ^ 53 := by
  have h1 := Nat.log2_self_le ha0
  have h2 := Nat.lt_log2_self (n := a)
  have hp := Nat.two_pow_pos (52 - a.log2)
  constructor
  · have : 2 ^ a.log2 * 2 ^ (52 - a.log2) ≤ a * 2 ^ (52 - a.log2) := Nat.mul_le_mul_right _ h1
    rw [← Nat.pow_add, show a.log2 + (52 - a.log2) = 52 by omega] at this
    exact this
  · have : a * 2 ^ (52 - a.log2) < 2 ^ (a.log2 + 1) * 2 ^ (52 - a.log2) := Nat.mul_lt_mul_of_pos_right h2 hp
    rw [← Nat.pow_add, show a.log2 + 1 + (52 - a.log2) = 53 by omega] at this
    exact this
theorem sw : double.signWeight = 2 ^ 63 := rfl
theorem bin : double.binade = 2 ^ 52 := rfl
theorem inf : double.infRung = 2047 * 2 ^ 52 := rfl
theorem lp : double.leastPlace = -1074 := rfl
theorem read_word (neg : Bool) (rung : Nat) (h : rung < 2 ^ 63) : double.read (double.word neg rung) =
    if rung < double.binade then .number neg rung double.leastPlace
    else if rung < double.infRung then .number neg (double.binade + rung % double.binade) (double.leastPlace + (rung / double.binade - 1 : Nat))
    else if rung = double.infRung then .infinity neg else .nan neg (rung - double.infRung) := by
  have e1 : (double.word neg rung / double.signWeight % 2 == 1) = neg := by
    rw [sw]; unfold Format.word; rw [sw]
    cases neg
    · simp; omega
    · simp; omega
  have e2 : double.word neg rung % double.signWeight = rung := by
    rw [sw]; unfold Format.word; rw [sw]
    cases neg
    · simp; omega
    · simp; omega
  unfold Format.read
  simp only [e1, e2]
theorem nearest_FI (neg : Bool) (a q : Nat) (ha : a < 2 ^ 53) : ∃ q' : Nat, double.read (double.nearest neg (a * 2 ^ q) (-(q : Int))) = .number neg (a * 2 ^ q') (-(q' : Int)) := by
  by_cases ha0 : a = 0
  · subst ha0
    obtain ⟨k, hk⟩ : ∃ k : Nat, (k : Int) = 1074 := ⟨1074, rfl⟩
    refine ⟨k, ?_⟩
    unfold Format.nearest
    rw [if_pos (by simp), read_word _ _ (by omega)]
    rw [if_pos (by rw [bin]; omega), lp, Nat.zero_mul, hk]
  · have hl := log2_lt53 ha0 ha
    obtain ⟨k1, k2⟩ := kept_bounds ha0 hl
    have hmag : a * 2 ^ q ≠ 0 := Nat.mul_ne_zero ha0 (by have := Nat.two_pow_pos q; omega)
    have hlog := log2_mul_pow a q ha0
    refine ⟨52 - a.log2, ?_⟩
    unfold Format.nearest
    rw [if_neg hmag]
    simp only [hlog, lp]
    have hlast : max (-(q : Int) + ((a.log2 + q : Nat) : Int) - (double.fractionBits : Int)) (-1074) = (a.log2 : Int) - 52 := by
      show max (-(q : Int) + ((a.log2 + q : Nat) : Int) - 52) (-1074) = _
      omega
    rw [hlast]
    have hkept : Toward.even.cut neg ((a * 2 ^ q) <<< (-(q : Int) - ((a.log2 : Int) - 52)).toNat) (((a.log2 : Int) - 52) - -(q : Int)).toNat = a * 2 ^ (52 - a.log2) := by
      rw [Nat.shiftLeft_eq]
      by_cases hq : q ≤ 52 - a.log2
      · have e1 : (((a.log2 : Int) - 52) - -(q : Int)).toNat = 0 := by omega
        have e2 : (-(q : Int) - ((a.log2 : Int) - 52)).toNat = 52 - a.log2 - q := by omega
        rw [e1, e2, Nat.mul_assoc, ← Nat.pow_add, show q + (52 - a.log2 - q) = 52 - a.log2 by omega]
        have := cut_even_exact neg (a * 2 ^ (52 - a.log2)) 0 (Or.inr (by omega))
        simpa using this
      · have e1 : (((a.log2 : Int) - 52) - -(q : Int)).toNat = q - (52 - a.log2) := by omega
        have e2 : (-(q : Int) - ((a.log2 : Int) - 52)).toNat = 0 := by omega
        rw [e1, e2, Nat.pow_zero, Nat.mul_one]
        have e3 : a * 2 ^ q = a * 2 ^ (52 - a.log2) * 2 ^ (q - (52 - a.log2)) := by
          rw [Nat.mul_assoc, ← Nat.pow_add, show 52 - a.log2 + (q - (52 - a.log2)) = q by omega]
        rw [e3]
        refine cut_even_exact neg _ _ (Or.inr ?_)
        rw [← e3, hlog]; omega
    rw [hkept]
    have hr : min ((((a.log2 : Int) - 52) - -1074).toNat * double.binade + a * 2 ^ (52 - a.log2)) double.infRung = (a.log2 + 1022) * 2 ^ 52 + a * 2 ^ (52 - a.log2) := by
      rw [bin, inf, show (((a.log2 : Int) - 52) - -1074).toNat = a.log2 + 1022 by omega]
      omega
    rw [hr]
    generalize a * 2 ^ (52 - a.log2) = kp at *
    rw [read_word _ _ (by omega), if_neg (by rw [bin]; omega), if_pos (by rw [inf]; omega), bin, lp]
    congr 1
    · omega
    · omega
theorem FI_write {neg : Bool} {n : Int} {q : Nat} (hn : n.natAbs < 2 ^ 53) (h0 : n < 0 → neg = true) (h1 : 0 < n → neg = false) : FI n (double.write (.number neg (n.natAbs * 2 ^ q) (-(q : Int)))) := by
  obtain ⟨q', h⟩ := nearest_FI neg n.natAbs q hn
  exact ⟨neg, q', h, h0, h1⟩
theorem signed_FI {neg : Bool} {n : Int} (q k : Nat) (h0 : n < 0 → neg = true) (h1 : 0 < n → neg = false) : signed neg (n.natAbs * 2 ^ q) k = n * 2 ^ (q + k) := by
  unfold signed
  rw [Nat.shiftLeft_eq, Nat.mul_assoc, ← Nat.pow_add]
  have e : ((n.natAbs * 2 ^ (q + k) : Nat) : Int) = (n.natAbs : Int) * 2 ^ (q + k) := by push_cast; rfl
  cases neg with
  | true =>
    have hn : n ≤ 0 := Int.not_lt.1 (fun h => by have := h1 h; cases this)
    rw [if_pos rfl, e, show (n.natAbs : Int) = -n by omega, Int.neg_mul, Int.neg_neg]
  | false =>
    have hn : 0 ≤ n := Int.not_lt.1 (fun h => by have := h0 h; cases this)
    simp only [Bool.false_eq_true, if_false]
    rw [e, show (n.natAbs : Int) = n by omega]
theorem FI_int (n : Int) (hn : n.natAbs < 2 ^ 53) : FI n (floatOfInt .f64 n) := by
  have := FI_write (neg := decide (n < 0)) (n := n) (q := 0) hn (by simp) (by simp; omega)
  show FI n (double.write (.number (decide (n < 0)) n.natAbs 0))
  simpa using this
theorem FI_sum {m n : Int} {x y : Nat} (hx : FI m x) (hy : FI n y) (h : (m + n).natAbs < 2 ^ 53) : ∃ r, floatBits .add .f64 x y = some r ∧ FI (m + n) r := by
  obtain ⟨s, i, hx, sx0, sx1⟩ := hx
  obtain ⟨t, j, hy, sy0, sy1⟩ := hy
  have hb : min (-(i : Int)) (-(j : Int)) = -((max i j : Nat) : Int) := by omega
  have e1 : (-(i : Int) - -((max i j : Nat) : Int)).toNat = max i j - i := by omega
  have e2 : (-(j : Int) - -((max i j : Nat) : Int)).toNat = max i j - j := by omega
  have t1 := signed_FI i (max i j - i) sx0 sx1
  have t2 := signed_FI j (max i j - j) sy0 sy1
  rw [show i + (max i j - i) = max i j by omega] at t1
  rw [show j + (max i j - j) = max i j by omega] at t2
  have htot : signed s (m.natAbs * 2 ^ i) (max i j - i) + signed t (n.natAbs * 2 ^ j) (max i j - j) = (m + n) * 2 ^ max i j := by rw [t1, t2, Int.add_mul]
  have hp : (0 : Int) < 2 ^ max i j := by exact_mod_cast Nat.two_pow_pos (max i j)
  have hnat : ((m + n) * 2 ^ max i j).natAbs = (m + n).natAbs * 2 ^ max i j := by rw [Int.natAbs_mul]; congr 1
  refine ⟨_, ?_, FI_write (neg := if (m + n) * 2 ^ max i j = 0 then s && t else decide ((m + n) * 2 ^ max i j < 0)) (q := max i j) h ?_ ?_⟩
  · show double.add x y = _
    unfold Format.add
    rw [hx, hy]
    simp only [Datum.sum, hb, e1, e2, htot, Option.map_some, hnat]
  · intro hneg
    have : (m + n) * 2 ^ max i j < 0 := Int.mul_neg_of_neg_of_pos hneg hp
    rw [if_neg (by omega)]; simpa using this
  · intro hpos
    have : 0 < (m + n) * 2 ^ max i j := Int.mul_pos hpos hp
    rw [if_neg (by omega)]; simp; omega
theorem FI_opp {n : Int} {y : Nat} (hy : FI n y) : ∃ (neg : Bool) (q : Nat), (double.read y).opposite = .number neg ((-n).natAbs * 2 ^ q) (-(q : Int)) ∧ (-n < 0 → neg = true) ∧ (0 < -n → neg = false) := by
  obtain ⟨t, j, hy, s0, s1⟩ := hy
  refine ⟨!t, j, by rw [hy, Int.natAbs_neg]; rfl, fun h => by rw [s1 (by omega)]; rfl, fun h => by rw [s0 (by omega)]; rfl⟩
theorem FI_sub {m n : Int} {x y : Nat} (hx : FI m x) (hy : FI n y) (h : (m - n).natAbs < 2 ^ 53) : ∃ r, floatBits .sub .f64 x y = some r ∧ FI (m - n) r := by
  obtain ⟨t, j, hy, sy0, sy1⟩ := FI_opp hy
  obtain ⟨s, i, hx, sx0, sx1⟩ := hx
  have hb : min (-(i : Int)) (-(j : Int)) = -((max i j : Nat) : Int) := by omega
  have e1 : (-(i : Int) - -((max i j : Nat) : Int)).toNat = max i j - i := by omega
  have e2 : (-(j : Int) - -((max i j : Nat) : Int)).toNat = max i j - j := by omega
  have t1 := signed_FI i (max i j - i) sx0 sx1
  have t2 := signed_FI j (max i j - j) sy0 sy1
  rw [show i + (max i j - i) = max i j by omega] at t1
  rw [show j + (max i j - j) = max i j by omega] at t2
  have htot : signed s (m.natAbs * 2 ^ i) (max i j - i) + signed t ((-n).natAbs * 2 ^ j) (max i j - j) = (m - n) * 2 ^ max i j := by rw [t1, t2, ← Int.add_mul]; rfl
  have hp : (0 : Int) < 2 ^ max i j := by exact_mod_cast Nat.two_pow_pos (max i j)
  have hnat : ((m - n) * 2 ^ max i j).natAbs = (m - n).natAbs * 2 ^ max i j := by rw [Int.natAbs_mul]; congr 1
  refine ⟨_, ?_, FI_write (neg := if (m - n) * 2 ^ max i j = 0 then s && t else decide ((m - n) * 2 ^ max i j < 0)) (q := max i j) h ?_ ?_⟩
  · show double.sub x y = _
    unfold Format.sub
    rw [hx, hy]
    simp only [Datum.sum, hb, e1, e2, htot, Option.map_some, hnat]
  · intro hneg
    have : (m - n) * 2 ^ max i j < 0 := Int.mul_neg_of_neg_of_pos hneg hp
    rw [if_neg (by omega)]; simpa using this
  · intro hpos
    have : 0 < (m - n) * 2 ^ max i j := Int.mul_pos hpos hp
    rw [if_neg (by omega)]; simp; omega
theorem FI_mul {m n : Int} {x y : Nat} (hx : FI m x) (hy : FI n y) (h : (m * n).natAbs < 2 ^ 53) : ∃ r, floatBits .mul .f64 x y = some r ∧ FI (m * n) r := by
  obtain ⟨s, i, hx, sx0, sx1⟩ := hx
  obtain ⟨t, j, hy, sy0, sy1⟩ := hy
  have hmag : m.natAbs * 2 ^ i * (n.natAbs * 2 ^ j) = (m * n).natAbs * 2 ^ (i + j) := by
    rw [Int.natAbs_mul, Nat.pow_add]
    simp only [Nat.mul_assoc, Nat.mul_left_comm]
  refine ⟨_, ?_, FI_write (neg := s ^^ t) (q := i + j) h ?_ ?_⟩
  · show double.mul x y = _
    unfold Format.mul
    rw [hx, hy]
    simp only [Datum.product, Option.map_some, hmag]
    congr 3
    omega
  · intro hneg
    rcases Int.lt_trichotomy m 0 with hm | hm | hm
    · rcases Int.lt_trichotomy n 0 with hn | hn | hn
      · have := Int.mul_pos_of_neg_of_neg hm hn; omega
      · subst hn; simp at hneg
      · rw [sx0 hm, sy1 hn]; rfl
    · subst hm; simp at hneg
    · rcases Int.lt_trichotomy n 0 with hn | hn | hn
      · rw [sx1 hm, sy0 hn]; rfl
      · subst hn; simp at hneg
      · have := Int.mul_pos hm hn; omega
  · intro hpos
    rcases Int.lt_trichotomy m 0 with hm | hm | hm
    · rcases Int.lt_trichotomy n 0 with hn | hn | hn
      · rw [sx0 hm, sy0 hn]; rfl
      · subst hn; simp at hpos
      · have := Int.mul_neg_of_neg_of_pos hm hn; omega
    · subst hm; simp at hpos
    · rcases Int.lt_trichotomy n 0 with hn | hn | hn
      · have := Int.mul_neg_of_pos_of_neg hm hn; omega
      · subst hn; simp at hpos
      · rw [sx1 hm, sy1 hn]; rfl
theorem FI_order {m n : Int} {x y : Nat} (hx : FI m x) (hy : FI n y) : FloatKind.f64.format.order x y = some (compare m n) := by
  obtain ⟨s, i, hx, sx0, sx1⟩ := hx
  obtain ⟨t, j, hy, sy0, sy1⟩ := hy
  have hb : min (-(i : Int)) (-(j : Int)) = -((max i j : Nat) : Int) := by omega
  have e1 : (-(i : Int) - -((max i j : Nat) : Int)).toNat = max i j - i := by omega
  have e2 : (-(j : Int) - -((max i j : Nat) : Int)).toNat = max i j - j := by omega
  have t1 := signed_FI i (max i j - i) sx0 sx1
  have t2 := signed_FI j (max i j - j) sy0 sy1
  rw [show i + (max i j - i) = max i j by omega] at t1
  rw [show j + (max i j - j) = max i j by omega] at t2
  have hp : (0 : Int) < 2 ^ max i j := by exact_mod_cast Nat.two_pow_pos (max i j)
  show double.order x y = _
  unfold Format.order
  rw [hx, hy]
  simp only [Datum.order, hb, e1, e2, t1, t2]
  congr 1
  rcases Int.lt_trichotomy m n with h | h | h
  · rw [Int.compare_eq_lt.2 h, Int.compare_eq_lt.2 (Int.mul_lt_mul_of_pos_right h hp)]
  · subst h; rw [Int.compare_eq_eq.2 rfl, Int.compare_eq_eq.2 rfl]
  · rw [Int.compare_eq_gt.2 h, Int.compare_eq_gt.2 (Int.mul_lt_mul_of_pos_right h hp)]
theorem FI_toInt {n : Int} {x : Nat} (hx : FI n x) (hn : n.natAbs < 2 ^ 53) : floatToIntVal .f64 x .i64 = some n := by
  obtain ⟨s, i, hx, sx0, sx1⟩ := hx
  have hcut : Toward.zero.cut s ((n.natAbs * 2 ^ i) <<< (-(i : Int)).toNat) (- -(i : Int)).toNat = n.natAbs := by
    have e1 : (-(i : Int)).toNat = 0 := by omega
    have e2 : (- -(i : Int)).toNat = i := by omega
    rw [e1, e2, Nat.shiftLeft_eq, Nat.pow_zero, Nat.mul_one]
    refine cut_zero_exact s _ _ ?_
    by_cases h0 : n.natAbs = 0
    · exact Or.inl h0
    · exact Or.inr (by rw [log2_mul_pow _ _ h0]; omega)
  have ht : (double.read x).toInt .zero = some n := by
    unfold Datum.toInt Datum.integral
    rw [hx]
    simp only [hcut]
    have := signed_FI (neg := s) (n := n) 0 0 sx0 sx1
    simpa using this
  unfold floatToIntVal
  have : (FloatKind.f64.decode x).toInt .zero = some n := ht
  rw [this]
  simp only [IntKind.min, IntKind.max, IntKind.signed, IntKind.bits]
  rw [if_pos (by simp; omega)]
end Go.Proofs.Ytommamngklobkaa
