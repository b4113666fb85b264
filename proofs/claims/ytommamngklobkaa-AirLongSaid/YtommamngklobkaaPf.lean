/- What the plain functions of package place return (contracts): for places whose parts are whole numbers. No conditions but those that each theorem names. -/
import Derived.Test.YtommamngklobkaaMem
import Derived.Test.YtommamngklobkaaFc
namespace Go.Proofs.Ytommamngklobkaa
open Go.RowKit
set_option linter.unusedVariables false
set_option maxHeartbeats 1000000 in
theorem whole38 (n m : Int) (x : Nat) (w : World) (h : FI n x) (hn : n.natAbs < 2 ^ 53) (hm0 : 0 ≤ m) (hm1 : m ≤ 4000) :
    Calls Try.prog 38 #[.float .f64 x, .int .i64 m] w fun e w' => e = .returned (.bool (decide (-m ≤ n ∧ n ≤ m))) ∧ w = w' := by
  have o1 : FloatKind.f64.format.order x (floatOfInt .f64 (-m)) = some (compare n (-m)) := FI_order h (FI_int _ (by omega))
  have o2 : FloatKind.f64.format.order x (floatOfInt .f64 m) = some (compare n m) := FI_order h (FI_int _ (by omega))
  have o3 : FloatKind.f64.format.order x (floatOfInt .f64 n) = some .eq := by rw [FI_order h (FI_int _ hn)]; simp
  have c1 := fun w => run_convert_float_int (P := Try.prog) w 30 3 .f64 .i64 x n (by rw [Try.underlying30]; rfl) Try.underlying3 (FI_toInt h hn)
  by_cases h1 : n < -m
  · have q1 : (some (compare n (-m)) == some Ordering.gt || some (compare n (-m)) == some Ordering.eq) = false := by
      rw [Int.compare_eq_lt.2 h1]; rfl
    rw [← o1] at q1
    have hd : decide (-m ≤ n ∧ n ≤ m) = false := by simp; omega
    rw [hd]
    clear o1 o2 o3 h h1 hd c1
    go_enter Try.func38, Try.ntmps38
    go_wp2
    go_ret
    exact ⟨rfl, rfl⟩
  · have q1 : (some (compare n (-m)) == some Ordering.gt || some (compare n (-m)) == some Ordering.eq) = true := by
      rcases Int.lt_trichotomy n (-m) with q | q | q
      · omega
      · rw [Int.compare_eq_eq.2 q]; rfl
      · rw [Int.compare_eq_gt.2 q]; rfl
    by_cases h2 : m < n
    · have q2 : (some (compare n m) == some Ordering.lt || some (compare n m) == some Ordering.eq) = false := by
        rw [Int.compare_eq_gt.2 h2]; rfl
      rw [← o1] at q1
      rw [← o2] at q2
      have hd : decide (-m ≤ n ∧ n ≤ m) = false := by simp; omega
      rw [hd]
      clear o1 o2 o3 h h1 h2 hd c1
      go_enter Try.func38, Try.ntmps38
      go_wp2
      go_ret
      exact ⟨rfl, rfl⟩
    · have q1 : (some (compare n (-m)) == some Ordering.gt || some (compare n (-m)) == some Ordering.eq) = true := by
        rcases Int.lt_trichotomy n (-m) with q | q | q
        · omega
        · rw [Int.compare_eq_eq.2 q]; rfl
        · rw [Int.compare_eq_gt.2 q]; rfl
      have q2 : (some (compare n m) == some Ordering.lt || some (compare n m) == some Ordering.eq) = true := by
        rcases Int.lt_trichotomy n m with q | q | q
        · rw [Int.compare_eq_lt.2 q]; rfl
        · rw [Int.compare_eq_eq.2 q]; rfl
        · omega
      rw [← o1] at q1
      rw [← o2] at q2
      have hd : decide (-m ≤ n ∧ n ≤ m) = true := by simp; omega
      rw [hd]
      clear o1 o2 h h1 h2 hd
      go_enter Try.func38, Try.ntmps38
      go_wp2
      go_ret
      exact ⟨rfl, rfl⟩
def wiB (a b m : Int) : Bool := decide (-m ≤ a ∧ a ≤ m) && decide (-m ≤ b ∧ b ≤ m)
theorem wiB_yes {a b m : Int} (h1 : -m ≤ a ∧ a ≤ m) (h2 : -m ≤ b ∧ b ≤ m) : wiB a b m = true := by simp [wiB, h1, h2]
theorem wiB_iff {a b m : Int} : wiB a b m = true ↔ (-m ≤ a ∧ a ≤ m) ∧ (-m ≤ b ∧ b ≤ m) := by simp [wiB]
theorem within25 (a b m : Int) (x y : Nat) (w : World) (h : CI a b x y) (ha : a.natAbs < 2 ^ 53) (hb : b.natAbs < 2 ^ 53) (hm0 : 0 ≤ m) (hm1 : m ≤ 4000) :
    Calls Try.prog 25 #[.complex .f64 x y, .int .i64 m] w fun e w' => e = .returned (.bool (wiB a b m)) ∧ w = w' := by
  have k1 := whole38 a m x w h.1 ha hm0 hm1
  have k2 := whole38 b m y w h.2 hb hm0 hm1
  unfold wiB
  clear h ha hb hm0 hm1
  generalize decide (-m ≤ a ∧ a ≤ m) = p at *
  generalize decide (-m ≤ b ∧ b ≤ m) = q at *
  cases p
  · clear k2
    go_enter Try.func25, Try.ntmps25
    go_wp2_with fail
    refine k1.mono ?_
    rintro e w1 ⟨rfl, rfl⟩
    go_wp2
    go_ret
    exact ⟨rfl, rfl⟩
  · go_enter Try.func25, Try.ntmps25
    go_wp2_with fail
    refine k1.mono ?_
    rintro e w1 ⟨rfl, rfl⟩
    go_wp2_with fail
    refine k2.mono ?_
    rintro e w1 ⟨rfl, rfl⟩
    go_wp2
    go_ret
    exact ⟨by simp, rfl⟩
theorem run_negf (y : Nat) (w : World) : (Op.unary UnOp.neg (.float .f64 y)).run Try.prog w = .ok (.float .f64 (Op.negFloat .f64 y)) w := rfl
theorem square26 (a b : Int) (x y : Nat) (w : World) (h : CI a b x y) (ha : a.natAbs ≤ 4000) (hb : b.natAbs ≤ 4000) :
    Calls Try.prog 26 #[.complex .f64 x y] w fun e w' => e = .returned (.int .i64 (a * a + b * b)) ∧ w = w' := by
  have haa : (a * a).natAbs ≤ 16000000 := by rw [Int.natAbs_mul]; exact Nat.mul_le_mul ha ha
  have hbb : (b * b).natAbs ≤ 16000000 := by rw [Int.natAbs_mul]; exact Nat.mul_le_mul hb hb
  have hab : (a * b).natAbs ≤ 16000000 := by rw [Int.natAbs_mul]; exact Nat.mul_le_mul ha hb
  have hba : (b * a).natAbs ≤ 16000000 := by rw [Int.mul_comm]; exact hab
  obtain ⟨r, s, hm, hr, _⟩ := CI_mul h ⟨h.1, FI_neg h.2⟩ (by omega) (by rw [Int.mul_neg, Int.natAbs_neg]; omega) (by rw [Int.mul_neg, Int.natAbs_neg]; omega) (by omega)
  rw [Int.mul_neg, Int.sub_neg] at hr
  have cn := run_negf y
  have c0 := fun w => run_complex_mul (P := Try.prog) w 29 x y x (Op.negFloat .f64 y) r s hm
  have c1 := fun w => run_convert_float_int (P := Try.prog) w 30 3 .f64 .i64 r (a * a + b * b) (by rw [Try.underlying30]; rfl) Try.underlying3 (FI_toInt hr (by omega))
  clear hm hr h haa hbb hab hba
  generalize a * a + b * b = q at *
  go_enter Try.func26, Try.ntmps26
  go_wp2
  go_ret
  exact ⟨rfl, rfl⟩
/-- How far apart two places are, squared. -/
theorem apart9 (a b c d : Int) (x y u v : Nat) (w : World) (h : CI a b x y) (k : CI c d u v) (h1 : -1000 ≤ a ∧ a ≤ 1000) (h2 : -1000 ≤ b ∧ b ≤ 1000) (h3 : -1000 ≤ c ∧ c ≤ 1000) (h4 : -1000 ≤ d ∧ d ≤ 1000) :
    Calls Try.prog 9 #[.complex .f64 x y, .complex .f64 u v] w fun e w' => e = .returned (.int .i64 ((a - c) * (a - c) + (b - d) * (b - d))) ∧ w = w' := by
  have k1 := within25 a b 1000 x y w h (by omega) (by omega) (by omega) (by omega)
  have k2 := within25 c d 1000 u v w k (by omega) (by omega) (by omega) (by omega)
  rw [wiB_yes h1 h2] at k1
  rw [wiB_yes h3 h4] at k2
  obtain ⟨r, s, hs, hr⟩ := CI_sub h k (by omega) (by omega)
  have c0 := fun w => run_complex_sum (P := Try.prog) w .sub (Or.inr rfl) 29 .f64 x y u v r s hs
  have k3 := square26 _ _ r s w hr (by omega) (by omega)
  generalize (a - c) * (a - c) + (b - d) * (b - d) = q at *
  clear h k h1 h2 h3 h4 hs hr
  go_enter Try.func9, Try.ntmps9
  go_wp2_with fail
  refine k1.mono ?_
  rintro e w1 ⟨rfl, rfl⟩
  go_wp2_with fail
  refine k2.mono ?_
  rintro e w1 ⟨rfl, rfl⟩
  go_wp2_with fail
  refine k3.mono ?_
  rintro e w1 ⟨rfl, rfl⟩
  go_wp2
  go_ret
  exact ⟨rfl, rfl⟩
end Go.Proofs.Ytommamngklobkaa
