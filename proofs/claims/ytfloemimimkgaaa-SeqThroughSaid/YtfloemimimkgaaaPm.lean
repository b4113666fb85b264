/- The missing ones of the taker's window of package seq (contract): what is returned, by the reference's words. No conditions but those that each theorem names. -/
import Derived.Test.YtfloemimimkgaaaRm
namespace Go.Proofs.Ytfloemimimkgaaa
open Go.RowKit Go.Maps
set_option linter.unusedVariables false
/-- The taker's set is what the reference's row of bools says, from the number V on. -/
structure RelS (m k V : Int) (f : Nat → Bool) (S : List Int) : Prop where
  mem : ∀ i : Nat, (i : Int) < m → f i = decide ((V + i) % m ∈ S)
  out : ∀ i : Nat, k ≤ i → f i = false
  len : S.length = cnt f 128
theorem cnt_mono (f : Nat → Bool) (a n : Nat) : cnt f a ≤ cnt f (a + n) := by
  induction n with
  | zero => exact Nat.le_refl _
  | succ n ih => rw [← Nat.add_assoc]; simp only [cnt]; omega
theorem lastF_of (f : Nat → Bool) (n j : Nat) (hj : j < n) (hf : f j = true) : (j : Int) ≤ lastF f n := by
  induction n with
  | zero => omega
  | succ n ih =>
    simp only [lastF]
    by_cases h : f n = true
    · rw [if_pos h]; omega
    · rw [if_neg h]
      have : j ≠ n := fun e => h (e ▸ hf)
      exact ih (by omega)
theorem lastF_true (f : Nat → Bool) (n : Nat) (h : 0 ≤ lastF f n) : f (lastF f n).toNat = true := by
  induction n with
  | zero => simp [lastF] at h
  | succ n ih =>
    by_cases hn : f n = true
    · have : lastF f (n + 1) = n := by simp [lastF, hn]
      rw [this]; simpa using hn
    · have : lastF f (n + 1) = lastF f n := by simp [lastF, hn]
      rw [this] at h ⊢
      exact ih h
theorem cnt_lt_last (f : Nat → Bool) (i n : Nat) (h : cnt f i < cnt f n) : (i : Int) ≤ lastF f n := by
  induction n with
  | zero => simp [cnt] at h
  | succ n ih =>
    by_cases hn : f n = true
    · have e : lastF f (n + 1) = n := by simp [lastF, hn]
      rw [e]
      by_cases hi : i ≤ n
      · omega
      · have := cnt_mono f (n + 1) (i - (n + 1))
        rw [show n + 1 + (i - (n + 1)) = i by omega] at this
        omega
    · have e : lastF f (n + 1) = lastF f n := by simp [lastF, hn]
      rw [e]
      refine ih ?_
      simp only [cnt, hn] at h
      simpa using h
theorem cnt_eq_last (f : Nat → Bool) (i : Nat) (h : cnt f i = cnt f 128) : lastF f 128 < i := by
  by_cases hl : lastF f 128 < 0
  · omega
  · have hb := lastF_bd f 128
    have ht := lastF_true f 128 (by omega)
    by_cases hi : lastF f 128 < i
    · exact hi
    · have h1 := cnt_mono f i ((lastF f 128).toNat - i)
      have h2 : cnt f ((lastF f 128).toNat + 1) = cnt f (lastF f 128).toNat + 1 := by simp [cnt, ht]
      have h3 := cnt_mono f ((lastF f 128).toNat + 1) (128 - ((lastF f 128).toNat + 1))
      rw [show i + ((lastF f 128).toNat - i) = (lastF f 128).toNat by omega] at h1
      rw [show (lastF f 128).toNat + 1 + (128 - ((lastF f 128).toNat + 1)) = 128 by omega] at h3
      omega
theorem missF_end (m V : Int) (f : Nat → Bool) (i : Nat) (h : cnt f i = cnt f 128) (hi : (i : Int) ≤ lastF f 128 + 1) : missF m V f i = missF m V f (lastF f 128).toNat := by
  have h1 := cnt_eq_last f i h
  by_cases hl : lastF f 128 < 0
  · have e : lastF f 128 = -1 := by have := lastF_bd f 128; omega
    rw [e] at hi ⊢
    obtain rfl : i = 0 := by omega
    rfl
  · have ht := lastF_true f 128 (by omega)
    obtain rfl : i = (lastF f 128).toNat + 1 := by omega
    simp [missF, ht]
theorem step_to {m a x r : Int} (h : stepI m a x = r) (w : World) : Calls Try.prog 27 #[.int .i64 m, .int .i64 a, .int .i64 x] w fun e w' => e = .returned (.int .i64 r) ∧ Below w.heap.size w w' := h ▸ step27 m a x w
set_option maxHeartbeats 4000000 in
theorem pmiss36 (b bm : Nat) (m k V : Int) (S : List Int) (f : Nat → Bool) (w : World) (h : InW w b bm m k (V % m) S) (hm : m = 8 ∨ m = 128) (hr : RelS m k V f S) (hkm : k ≤ m) (hV0 : 0 ≤ V) :
    Calls Try.prog 36 #[.pointer (some ⟨b, 0, none⟩)] w (MissPost w (missF m V f (lastF f 128).toNat)) := by
  have H := Lib.hid h
  have HM := Lib.hid hm
  have HR := Lib.hid hr
  have hl := h.set.len
  have c0 := h.c0
  have c2 := h.c2
  have c3 := h.c3
  have hm0 : 8 ≤ m := by omega
  have hm1 : m ≤ 128 := by omega
  rw [hr.len] at hl
  have hcn := cnt_le f 128
  clear h hm hr
  go_enter Try.func36, Try.ntmps36
  go_wp2
  clear hl c0 c2 c3
  have HC := Lib.hid (Nat.le_refl (cnt f 128))
  go_loopg [3, 4, 5] 128 (fun n v l x wr => ∃ i : Nat, i + n = 128 ∧ (i : Int) ≤ lastF f 128 + 1 ∧ x = .int .i64 ((V + i) % m) ∧ l = .int .i64 ((cnt f 128 - cnt f i : Nat) : Int) ∧ cnt f i ≤ cnt f 128 ∧ RowI wr w.heap.size v (missF m V f i) ∧ Below w.heap.size w wr)
  case atStart => exact ⟨0, by omega, by have := lastF_bd f 128; omega, by simp, by simp [cnt], by simp [cnt], RowI.nil _ _, Below.refl _ _⟩
  case round =>
    obtain ⟨i, hi, hil, rfl, rfl, hci, hrow, hb⟩ := hrel
    have hin := H.out.below hb
    have hbl := H.out.lt
    have hbase := hb.size
    have d0 := hin.c0
    have d3 := hin.c3
    have hn0 : 0 ≤ (V + i) % m := Int.emod_nonneg _ (by omega)
    have hn1 : (V + i) % m < m := Int.emod_lt_of_pos _ (by omega)
    have hlook := hin.set.look (wf_small hn0 (by omega))
    have hstep : stepI m ((V + i) % m) 1 = (V + ((i + 1 : Nat) : Int)) % m := by
      rw [stepI_one HM.out hn0 hn1]
      rcases HM.out with rfl | rfl <;> omega
    have HST := Lib.hid (step_to hstep)
    have hmlen := missF_len m V f i
    clear hstep
    by_cases hlt : cnt f i < cnt f 128
    · have hila := cnt_lt_last f i 128 hlt
      have hlb := lastF_bd f 128
      have him : (i : Int) < m := by
        have ht := lastF_true f 128 (by omega)
        by_cases h : (i : Int) < m
        · exact h
        · have := HR.out.out (lastF f 128).toNat (by omega)
          rw [this] at ht; cases ht
      have hmem := HR.out.mem i him
      rw [← hmem] at hlook
      cases hf : f i
      · rw [hf] at hlook
        have hst : missF m V f (i + 1) = missF m V f i ++ [(V + i) % m] := by simp [missF, hf]
        have hcs : cnt f (i + 1) = cnt f i := by simp [cnt, hf]
        have HT := Lib.hid (And.intro hst hcs)
        have hpos : (0 : Int) < ((cnt f 128 - cnt f i : Nat) : Int) := by omega
        have HI := Lib.hid (And.intro hila (And.intro hlb hlt))
        clear hf hmem hst hcs hila hlb hlt
        generalize hx : (V + (i : Int)) % m = x at *
        have HX := Lib.hid hx
        clear hx
        generalize hq : (cnt f 128 - cnt f i : Nat) = q at *
        have HQ := Lib.hid hq
        clear hq
        go_wp2_with (first
          | (at_builtin; refine wpList_append_row rfl _ _ rfl w.heap.size u3 (missF m V f i) x rfl hrow rfl (by omega) hbase ?_; intro v' w1 hr1 hg1; have hin1 := (hin.only ((Only.refl [] wr).alloc (.cells #[.int .i64 x] 3)) (by simp) (by simp)).grown hg1 w.heap.size hrow.own hbl.1 hbl.2; have d0 := hin1.c0)
          | (go_at_call 27; refine (HST.out _).mono ?_; rintro e w2 ⟨rfl, hb2⟩))
        go_roundg (gk - 1)
        case measure => omega
        case rel =>
          have hbe1 : Below w.heap.size w w1 := (hb.alloc hbase _).grown hg1 (by simp; omega) hrow.own
          refine ⟨i + 1, by omega, by have := HI.out; omega, rfl, ?_, by have := HI.out; have := HT.out.2; omega, ?_, hbe1.trans (hb2.mono hbe1.size)⟩
          · rw [HT.out.2, HQ.out]
          · rw [HT.out.1]
            exact hr1.only ((Only.refl [] w1).below hb2 (Nat.le_refl _)) (by simp)
      · rw [hf] at hlook
        have hst : missF m V f (i + 1) = missF m V f i := by simp [missF, hf]
        have hcs : cnt f (i + 1) = cnt f i + 1 := by simp [cnt, hf]
        have HT := Lib.hid (And.intro hst hcs)
        have hpos : (0 : Int) < ((cnt f 128 - cnt f i : Nat) : Int) := by omega
        have HI := Lib.hid (And.intro hila (And.intro hlb hlt))
        clear hf hmem hst hcs hila hlb hlt
        generalize hx : (V + (i : Int)) % m = x at *
        have HX := Lib.hid hx
        clear hx
        generalize hq : (cnt f 128 - cnt f i : Nat) = q at *
        have HQ := Lib.hid hq
        have hqb : q ≤ 128 := by omega
        clear hq
        go_wp2_with (go_at_call 27; refine (HST.out _).mono ?_; rintro e w2 ⟨rfl, hb2⟩)
        go_roundg (gk - 1)
        case measure => omega
        case rel =>
          refine ⟨i + 1, by omega, by have := HI.out; omega, rfl, ?_, by have := HI.out; have := HT.out.2; omega, ?_, hb.trans (hb2.mono hbase)⟩
          · have h1 := HT.out.2
            have h2 := HQ.out
            have h3 := HI.out.2.2
            rw [show ((cnt f 128 - cnt f (i + 1) : Nat) : Int) = (q : Int) - 1 by omega]
          · rw [HT.out.1]
            exact hrow.only ((Only.refl [] wr).below hb2 (Nat.le_refl _)) (by simp)
    · have he : cnt f i = cnt f 128 := by omega
      have hend := missF_end m V f i he hil
      have hz : ((cnt f 128 - cnt f i : Nat) : Int) = 0 := by omega
      rw [hend] at hrow
      rw [hz]
      clear hz he hend hlt hlook
      go_wp2
      go_ret
      exact ⟨u3, rfl, hrow, hb⟩
end Go.Proofs.Ytfloemimimkgaaa
