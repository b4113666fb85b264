/- What the plain functions of package seq return (contracts). No conditions but those that each theorem names. -/
import Derived.Test.YtfloemimimkgaaaMem
import Derived.Handy
namespace Go.Proofs.Ytfloemimimkgaaa
open Go.RowKit
def modB (m : Int) : Bool := decide (m = 8 ∨ m = 128)
theorem modB_or (m : Int) (h : modB m = true) : m = 8 ∨ m = 128 := by simpa [modB] using h
theorem modB_no (m : Int) (h : modB m = false) : m ≠ 8 ∧ m ≠ 128 := by simpa [modB] using h
theorem mod50 (m : Int) (w : World) : Calls Try.prog 50 #[.int .i64 m] w fun e w' => e = .returned (.bool (modB m)) ∧ w = w' := by
  by_cases h1 : m = 8
  · subst h1
    go_enter Try.func50, Try.ntmps50
    go_wp2
    go_ret
    exact ⟨rfl, rfl⟩
  · by_cases h2 : m = 128
    · subst h2
      go_enter Try.func50, Try.ntmps50
      go_wp2
      go_ret
      exact ⟨rfl, rfl⟩
    · go_enter Try.func50, Try.ntmps50
      go_wp2
      go_ret
      exact ⟨ret_bool (by simp [modB, h1, h2]), rfl⟩
def inB (m a : Int) : Bool := decide (0 ≤ a ∧ a < m)
def ok1B (m a : Int) : Bool := inB m a && modB m
def ok2B (m a b : Int) : Bool := inB m a && inB m b && modB m
theorem ok1_low {m a : Int} (h : a < 0) : ok1B m a = false := by simp [ok1B, inB]; omega
theorem ok1_high {m a : Int} (h : m ≤ a) : ok1B m a = false := by simp [ok1B, inB]; omega
theorem ok1_in {m a : Int} (h0 : 0 ≤ a) (h : a < m) : ok1B m a = modB m := by simp [ok1B, inB, h0, h]
theorem ok2_1 {m a b : Int} (h : inB m a = false) : ok2B m a b = false := by simp [ok2B, h]
theorem ok2_2 {m a b : Int} (h : inB m b = false) : ok2B m a b = false := by simp [ok2B, h]
theorem ok2_in {m a b : Int} (h0 : 0 ≤ a) (h : a < m) (h2 : 0 ≤ b) (h3 : b < m) : ok2B m a b = modB m := by simp [ok2B, inB, h0, h, h2, h3]
theorem inB_low {m a : Int} (h : a < 0) : inB m a = false := by simp [inB]; omega
theorem inB_high {m a : Int} (h : m ≤ a) : inB m a = false := by simp [inB]; omega
set_option maxHeartbeats 1000000 in
theorem right1 (m a : Int) (b : Nat) (w : World) (hc : w.cell? ⟨b, 0, none⟩ = some (.int .i64 a)) :
    Calls Try.prog 26 #[.int .i64 m, .slice (some ⟨b, 0, none⟩) 1 1] w fun e w' => e = .returned (.bool (ok1B m a)) ∧ w = w' := by
  by_cases h1 : a < 0
  · rw [ok1_low h1]
    go_enter Try.func26, Try.ntmps26
    go_wp2
    refine wp_loop_rounds 1 ?_; rw [rounds_succ]; go_wp2
    go_ret
    exact ⟨rfl, rfl⟩
  · by_cases h2 : m ≤ a
    · rw [ok1_high h2]
      go_enter Try.func26, Try.ntmps26
      go_wp2
      refine wp_loop_rounds 1 ?_; rw [rounds_succ]; go_wp2
      go_ret
      exact ⟨rfl, rfl⟩
    · rw [ok1_in (by omega) (by omega)]
      go_enter Try.func26, Try.ntmps26
      go_wp2
      refine wp_loop_rounds 2 ?_; rw [rounds_succ]; go_wp2
      rw [rounds_succ]; go_wp2_with (go_at_call 50; refine (mod50 _ _).mono ?_; rintro e w1 ⟨rfl, rfl⟩)
      go_ret
      exact ⟨rfl, rfl⟩
set_option maxHeartbeats 1000000 in
theorem right2 (m a c : Int) (b : Nat) (w : World) (hc : w.cell? ⟨b, 0, none⟩ = some (.int .i64 a)) (hd : w.cell? ⟨b, 1, none⟩ = some (.int .i64 c)) :
    Calls Try.prog 26 #[.int .i64 m, .slice (some ⟨b, 0, none⟩) 2 2] w fun e w' => e = .returned (.bool (ok2B m a c)) ∧ w = w' := by
  by_cases h1 : a < 0
  · rw [ok2_1 (inB_low h1)]
    go_enter Try.func26, Try.ntmps26
    go_wp2
    refine wp_loop_rounds 1 ?_; rw [rounds_succ]; go_wp2
    go_ret
    exact ⟨rfl, rfl⟩
  · by_cases h2 : m ≤ a
    · rw [ok2_1 (inB_high h2)]
      go_enter Try.func26, Try.ntmps26
      go_wp2
      refine wp_loop_rounds 1 ?_; rw [rounds_succ]; go_wp2
      go_ret
      exact ⟨rfl, rfl⟩
    · by_cases h3 : c < 0
      · rw [ok2_2 (inB_low h3)]
        go_enter Try.func26, Try.ntmps26
        go_wp2
        refine wp_loop_rounds 2 ?_; rw [rounds_succ]; go_wp2
        rw [rounds_succ]; go_wp2
        go_ret
        exact ⟨rfl, rfl⟩
      · by_cases h4 : m ≤ c
        · rw [ok2_2 (inB_high h4)]
          go_enter Try.func26, Try.ntmps26
          go_wp2
          refine wp_loop_rounds 2 ?_; rw [rounds_succ]; go_wp2
          rw [rounds_succ]; go_wp2
          go_ret
          exact ⟨rfl, rfl⟩
        · rw [ok2_in (by omega) (by omega) (by omega) (by omega)]
          go_enter Try.func26, Try.ntmps26
          go_wp2
          refine wp_loop_rounds 3 ?_; rw [rounds_succ]; go_wp2
          rw [rounds_succ]; go_wp2
          rw [rounds_succ]; go_wp2_with (go_at_call 50; refine (mod50 _ _).mono ?_; rintro e w1 ⟨rfl, rfl⟩)
          go_ret
          exact ⟨rfl, rfl⟩
/-- The distance, and a step, where all is right. -/
def farI (m a b : Int) : Int := if ok2B m a b = true then (b - a + m) % m else -1
def stepI (m a c : Int) : Int := if ok1B m a = true then (a + c.tmod m + m) % m else -1
set_option maxHeartbeats 1000000 in
theorem far25 (m a c : Int) (w : World) :
    Calls Try.prog 25 #[.int .i64 m, .int .i64 a, .int .i64 c] w fun e w' => e = .returned (.int .i64 (farI m a c)) ∧ Below w.heap.size w w' := by
  cases h : ok2B m a c
  · have hf : farI m a c = -1 := by simp [farI, h]
    rw [hf]; clear hf
    have k26 := right2 m a c w.heap.size _ (nc20 w (.int .i64 a) (.int .i64 c) 3) (nc21 w (.int .i64 a) (.int .i64 c) 3)
    rw [h] at k26
    clear h
    go_enter Try.func25, Try.ntmps25
    go_wp2_with fail
    refine k26.mono ?_
    rintro e w1 ⟨rfl, rfl⟩
    go_wp2
    go_ret
    exact ⟨rfl, below_new _ _⟩
  · have hf : farI m a c = (c - a + m) % m := by simp [farI, h]
    rw [hf]; clear hf
    have hm : (m = 8 ∨ m = 128) ∧ 0 ≤ a ∧ a < m ∧ 0 ≤ c ∧ c < m := by simp [ok2B, inB, modB] at h; omega
    have k26 := right2 m a c w.heap.size _ (nc20 w (.int .i64 a) (.int .i64 c) 3) (nc21 w (.int .i64 a) (.int .i64 c) 3)
    rw [h] at k26
    clear h
    obtain ⟨hm, h1, h2, h3, h4⟩ := hm
    have hm8 : 8 ≤ m := by omega
    have hm9 : m ≤ 128 := by omega
    clear hm
    go_enter Try.func25, Try.ntmps25
    go_wp2_with fail
    refine k26.mono ?_
    rintro e w1 ⟨rfl, rfl⟩
    go_wp2
    go_ret
    exact ⟨rfl, below_new _ _⟩
set_option maxHeartbeats 1000000 in
theorem step27 (m a c : Int) (w : World) :
    Calls Try.prog 27 #[.int .i64 m, .int .i64 a, .int .i64 c] w fun e w' => e = .returned (.int .i64 (stepI m a c)) ∧ Below w.heap.size w w' := by
  cases h : ok1B m a
  · have hf : stepI m a c = -1 := by simp [stepI, h]
    rw [hf]; clear hf
    have k26 := right1 m a w.heap.size _ (nc0 w (.int .i64 a) 3)
    rw [h] at k26
    clear h
    go_enter Try.func27, Try.ntmps27
    go_wp2_with fail
    refine k26.mono ?_
    rintro e w1 ⟨rfl, rfl⟩
    go_wp2
    go_ret
    exact ⟨rfl, below_new _ _⟩
  · have hf : stepI m a c = (a + c.tmod m + m) % m := by simp [stepI, h]
    rw [hf]; clear hf
    have hm : (m = 8 ∨ m = 128) ∧ 0 ≤ a ∧ a < m := by simp [ok1B, inB, modB] at h; omega
    have k26 := right1 m a w.heap.size _ (nc0 w (.int .i64 a) 3)
    rw [h] at k26
    clear h
    obtain ⟨hm, h1, h2⟩ := hm
    have hm8 : 8 ≤ m := by omega
    have hm9 : m ≤ 128 := by omega
    have ht : -m < c.tmod m ∧ c.tmod m < m := ⟨by have := Int.lt_tmod_of_pos c (by omega : 0 < m); omega, Int.tmod_lt_of_pos _ (by omega)⟩
    obtain ⟨ht0, ht1⟩ := ht
    clear hm
    go_enter Try.func27, Try.ntmps27
    go_wp2_with fail
    refine k26.mono ?_
    rintro e w1 ⟨rfl, rfl⟩
    go_wp2
    go_ret
    exact ⟨rfl, below_new _ _⟩
end Go.Proofs.Ytfloemimimkgaaa
