/- What Mod and Far of the reference return (contracts). No conditions but those that each theorem names. -/
import Derived.Test.YtfloemimimkgaaaAw
namespace Go.Proofs.Ytfloemimimkgaaa
open Go.RowKit Go.Maps
set_option linter.unusedVariables false
theorem mod32 (m : Int) (w : World) : Calls Try.prog 32 #[.int .i64 m] w fun e w' => e = .returned (.bool (modB m)) ∧ w = w' := by
  by_cases h1 : m = 8
  · subst h1
    go_enter Try.func32, Try.ntmps32
    go_wp2
    go_ret
    exact ⟨rfl, rfl⟩
  · by_cases h2 : m = 128
    · subst h2
      go_enter Try.func32, Try.ntmps32
      go_wp2
      go_ret
      exact ⟨rfl, rfl⟩
    · go_enter Try.func32, Try.ntmps32
      go_wp2
      go_ret
      exact ⟨ret_bool (by simp [modB, h1, h2]), rfl⟩
theorem far_step {m c p : Int} (hm : m = 8 ∨ m = 128) (p0 : 0 ≤ p) (p1 : p < m) (h3 : 0 ≤ c) (h4 : c < m) (h : p ≠ c) :
    1 + (c - (if p + 1 = m then 0 else p + 1) + m) % m = (c - p + m) % m ∧ 1 ≤ (c - p + m) % m ∧ (c - p + m) % m < m := by
  rcases hm with rfl | rfl
  · by_cases e : p + 1 = 8
    · rw [if_pos e]; omega
    · rw [if_neg e]; omega
  · by_cases e : p + 1 = 128
    · rw [if_pos e]; omega
    · rw [if_neg e]; omega
theorem farI_le {m a c : Int} (hm : m = 8 ∨ m = 128) (p0 : 0 ≤ a) (p1 : a < m) (h3 : 0 ≤ c) (h4 : c < m) : farI m a c < 128 := by
  have : ok2B m a c = true := by simp [ok2B, inB, modB, p0, p1, h3, h4, hm]
  have := farI_bd this
  omega
set_option maxHeartbeats 2000000 in
theorem far24 (m a c : Int) (w : World) : Calls Try.prog 24 #[.int .i64 m, .int .i64 a, .int .i64 c] w fun e w' => e = .returned (.int .i64 (farI m a c)) ∧ w = w' := by
  cases h : ok2B m a c
  · have hf : farI m a c = -1 := by simp [farI, h]
    rw [hf]; clear hf
    cases hm : modB m
    · have k32 := mod32 m w
      rw [hm] at k32
      clear h hm
      go_enter Try.func24, Try.ntmps24
      go_wp2_with (go_at_call 32; refine k32.mono ?_; rintro e w1 ⟨rfl, rfl⟩)
      go_ret
      exact ⟨rfl, rfl⟩
    · have k32 := mod32 m w
      rw [hm] at k32
      have hcase : a < 0 ∨ (0 ≤ a ∧ m ≤ a) ∨ (0 ≤ a ∧ a < m ∧ c < 0) ∨ (0 ≤ a ∧ a < m ∧ 0 ≤ c ∧ m ≤ c) := by simp [ok2B, inB, hm] at h; omega
      clear h hm
      rcases hcase with q0 | ⟨q0, q1⟩ | ⟨q0, q1, q2⟩ | ⟨q0, q1, q2, q3⟩
      all_goals
        go_enter Try.func24, Try.ntmps24
        go_wp2_with (go_at_call 32; refine k32.mono ?_; rintro e w1 ⟨rfl, rfl⟩)
        go_ret
        exact ⟨rfl, rfl⟩
  · have hf : farI m a c = (c - a + m) % m := by simp [farI, h]
    have hm : (m = 8 ∨ m = 128) ∧ 0 ≤ a ∧ a < m ∧ 0 ≤ c ∧ c < m := by simp [ok2B, inB, modB] at h; omega
    have k32 := mod32 m w
    have hmb : modB m = true := by simp [modB]; exact hm.1
    rw [hmb] at k32
    clear hmb h
    obtain ⟨hm, h1, h2, h3, h4⟩ := hm
    have HM := Lib.hid hm
    have HF := Lib.hid hf
    have hm8 : 8 ≤ m := by omega
    have hm9 : m ≤ 128 := by omega
    clear hm hf
    go_enter Try.func24, Try.ntmps24
    go_wp2_with (go_at_call 32; refine k32.mono ?_; rintro e w1 ⟨rfl, rfl⟩)
    go_loop [1, 7] (fun x n => ∃ p : Int, ∃ q : Nat, 0 ≤ p ∧ p < m ∧ x = .int .i64 p ∧ n = .int .i64 q ∧ (q : Int) + (c - p + m) % m = farI m a c ∧ q ≤ 128) (fun x _ => ((c - intOf x + m) % m).toNat)
    case atStart => exact ⟨a, 0, h1, h2, rfl, rfl, by rw [HF.out]; simp, by omega⟩
    case round =>
      obtain ⟨p, q, p0, p1, rfl, rfl, he, hq⟩ := hrel
      have HE := Lib.hid he
      clear he
      by_cases hpc : p = c
      · have hfin : (q : Int) = farI m a c := by
          have := HE.out
          rw [hpc] at this
          have h0 : (c - c + m) % m = 0 := by rw [Int.sub_self, Int.zero_add]; exact Int.emod_self
          omega
        have HFIN := Lib.hid hfin
        clear hfin
        subst hpc
        go_wp2
        go_ret
        exact ⟨ret_int HFIN.out, rfl⟩
      · have hne : (p != c) = true := by simpa using hpc
        have hstep := far_step HM.out p0 p1 h3 h4 hpc
        have hb2 : (q : Int) < 128 := by have := HE.out; have := hstep.2.1; have := farI_le HM.out h1 h2 h3 h4; omega
        by_cases hw : p + 1 = m
        · have HS := Lib.hid hstep
          have hpm : p = m - 1 := by omega
          clear hstep hpc hw
          subst hpm
          go_wp2
          go_round
          case rel => exact ⟨0, q + 1, by omega, by omega, rfl, by go_num, by have := HE.out; have := HS.out; rw [if_pos (by omega)] at this; omega, by omega⟩
          case measure => have := HS.out; rw [if_pos (by omega)] at this; simp [intOf] at this ⊢; omega
        · have HS := Lib.hid hstep
          have hw' : ((p + 1) == m) = false := by simpa using hw
          clear hstep hpc
          go_wp2
          go_round
          case rel => exact ⟨p + 1, q + 1, by omega, by omega, rfl, by go_num, by have := HE.out; have := HS.out; rw [if_neg hw] at this; omega, by omega⟩
          case measure => have := HS.out; rw [if_neg hw] at this; simp [intOf] at this ⊢; omega
end Go.Proofs.Ytfloemimimkgaaa
