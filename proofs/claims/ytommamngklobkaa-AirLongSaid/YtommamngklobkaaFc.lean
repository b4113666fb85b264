/- Complex numbers whose parts are whole numbers: sums, differences and products are exact. No conditions but those that each theorem names. -/
import Derived.Test.YtommamngklobkaaFl
namespace Go.Proofs.Ytommamngklobkaa
open Ieee
set_option linter.unusedVariables false
theorem read_neg (b : Nat) : double.read (Op.negFloat .f64 b) = (double.read b).opposite := by
  have e0 : Op.negFloat .f64 b = b ^^^ 2 ^ 63 := rfl
  have e1 : (b ^^^ 2 ^ 63) % 2 ^ 63 = b % 2 ^ 63 := by
    rw [Nat.xor_mod_two_pow]; simp
  have e2 : ((b ^^^ 2 ^ 63) / 2 ^ 63 % 2 == 1) = !(b / 2 ^ 63 % 2 == 1) := by
    have h1 := Nat.testBit_xor b (2 ^ 63) 63
    rw [Nat.testBit_two_pow_self] at h1
    rw [Nat.testBit_eq_decide_div_mod_eq, Nat.testBit_eq_decide_div_mod_eq] at h1
    have h2 : ((b ^^^ 2 ^ 63) / 2 ^ 63 % 2 == 1) = decide ((b ^^^ 2 ^ 63) / 2 ^ 63 % 2 = 1) := rfl
    have h3 : (b / 2 ^ 63 % 2 == 1) = decide (b / 2 ^ 63 % 2 = 1) := rfl
    rw [h2, h3, h1]; simp
  rw [e0]
  unfold Format.read
  rw [sw, e1, e2]
  dsimp only
  split
  · rfl
  · split
    · rfl
    · split <;> rfl
theorem FI_neg {n : Int} {b : Nat} (h : FI n b) : FI (-n) (Op.negFloat .f64 b) := by
  obtain ⟨neg, q, h, h0, h1⟩ := FI_opp h
  exact ⟨neg, q, (read_neg b).trans h, h0, h1⟩
/-- A complex number whose parts are whole. -/
def CI (a b : Int) (x y : Nat) : Prop := FI a x ∧ FI b y
theorem CI_add {a b c d : Int} {x y u v : Nat} (h : CI a b x y) (k : CI c d u v) (h1 : (a + c).natAbs < 2 ^ 53) (h2 : (b + d).natAbs < 2 ^ 53) : ∃ r s, cSumBits .add .f64 x y u v = some (r, s) ∧ CI (a + c) (b + d) r s := by
  obtain ⟨r, e1, f1⟩ := FI_sum h.1 k.1 h1
  obtain ⟨s, e2, f2⟩ := FI_sum h.2 k.2 h2
  exact ⟨r, s, by simp [cSumBits, e1, e2], f1, f2⟩
theorem CI_sub {a b c d : Int} {x y u v : Nat} (h : CI a b x y) (k : CI c d u v) (h1 : (a - c).natAbs < 2 ^ 53) (h2 : (b - d).natAbs < 2 ^ 53) : ∃ r s, cSumBits .sub .f64 x y u v = some (r, s) ∧ CI (a - c) (b - d) r s := by
  obtain ⟨r, e1, f1⟩ := FI_sub h.1 k.1 h1
  obtain ⟨s, e2, f2⟩ := FI_sub h.2 k.2 h2
  exact ⟨r, s, by simp [cSumBits, e1, e2], f1, f2⟩
theorem CI_mul {a b c d : Int} {x y u v : Nat} (h : CI a b x y) (k : CI c d u v) (h1 : (a * c).natAbs < 2 ^ 52) (h2 : (b * d).natAbs < 2 ^ 52) (h3 : (a * d).natAbs < 2 ^ 52) (h4 : (b * c).natAbs < 2 ^ 52) :
    ∃ r s, cMulBits x y u v = some (r, s) ∧ CI (a * c - b * d) (a * d + b * c) r s := by
  obtain ⟨ac, e1, f1⟩ := FI_mul h.1 k.1 (by omega)
  obtain ⟨bd, e2, f2⟩ := FI_mul h.2 k.2 (by omega)
  obtain ⟨ad, e3, f3⟩ := FI_mul h.1 k.2 (by omega)
  obtain ⟨bc, e4, f4⟩ := FI_mul h.2 k.1 (by omega)
  obtain ⟨r, e5, f5⟩ := FI_sub f1 f2 (by omega)
  obtain ⟨s, e6, f6⟩ := FI_sum f3 f4 (by omega)
  exact ⟨r, s, by simp [cMulBits, e1, e2, e3, e4, e5, e6], f5, f6⟩
theorem FI_zero : FI 0 0 := by
  obtain ⟨k, hk⟩ : ∃ k : Nat, (k : Int) = 1074 := ⟨1074, rfl⟩
  exact ⟨false, k, by rw [Int.natAbs_zero, Nat.zero_mul, hk]; rfl, by omega, by omega⟩
theorem FI_one : FI 1 4607182418800017408 := FI_int 1 (by decide)
end Go.Proofs.Ytommamngklobkaa
