/- SmoothSums returns true for every input, and leaves what it was handed as it was; no condition beside the form's own. -/
import Derived.Test.YtfloemimimkgaaaSm
import Derived.Test.YtfloemimimkgaaaRows
import Derived.WalkKit
import Derived.ProofKit
import Derived.OpenShut
import Derived.ShutString
import Derived.ChangeOld
import Derived.Below
namespace Go.Proofs.Ytfloemimimkgaaa.smoothSums
open Go.ChangeShapes Go.WideShapes Go.ChangeAt Go.RowKit
open Go.ChangeMaps (open_string shut_string)
set_option linter.unusedVariables false      -- a walk need not use every 'w<i>' (that an integer argument fits its kind)

theorem own : ownKnob Try.prog.godebug = none := by kernel_rfl

/-- T1 when so many answers didn't come; the sum of the T1s that were waited. -/
def itT (t : Int) : Nat → Int
  | 0 => t
  | n + 1 => wi (2 * itT t n)
def smT (t : Int) : Nat → Int
  | 0 => 0
  | n + 1 => smT t n + itT t n
theorem itT_bd (t : Int) (h0 : 4 ≤ t) (h1 : t ≤ 255) (n : Nat) : 4 ≤ itT t n ∧ itT t n ≤ 255 := by
  cases n with
  | zero => exact ⟨h0, h1⟩
  | succ n => exact wi_bd _
theorem smT_bd (t : Int) (h0 : 4 ≤ t) (h1 : t ≤ 255) (n : Nat) : 4 * (n : Int) ≤ smT t n ∧ smT t n ≤ 255 * (n : Int) := by
  induction n with
  | zero => exact ⟨by simp [smT], by simp [smT]⟩
  | succ n ih => have := itT_bd t h0 h1 n; simp only [smT]; omega
def kk (n : Int) : Nat := if n < 0 then 0 else if 1000 < n then 1000 else n.toNat
theorem kk_is (a1 : Int) : kk a1 ≤ 1000 ∧ (a1 < 0 ∧ kk a1 = 0 ∨ 1000 < a1 ∧ Hid (kk a1 = 1000) ∨ 0 ≤ a1 ∧ a1 ≤ 1000 ∧ a1 = (kk a1 : Int)) := by
  unfold kk Hid
  by_cases h : a1 < 0
  · rw [if_pos h]; omega
  · rw [if_neg h]
    by_cases h2 : 1000 < a1
    · rw [if_pos h2]; omega
    · rw [if_neg h2]; omega
set_option maxHeartbeats 2000000 in
theorem sum21 (a0 a1 : Int) (w : World) : Calls Try.prog 21 #[.int .i64 a0, .int .i64 a1] w fun e w' => e = .returned (.int .i64 (smT (wi a0) (kk a1))) ∧ Below w.heap.size w w' := by
  have hbd := wi_bd a0
  have hT : ∀ n, 4 ≤ itT (wi a0) n ∧ itT (wi a0) n ≤ 255 := itT_bd _ hbd.1 hbd.2
  have hS : ∀ n : Nat, 4 * (n : Int) ≤ smT (wi a0) n ∧ smT (wi a0) n ≤ 255 * (n : Int) := smT_bd _ hbd.1 hbd.2
  have HT := Lib.hid hT
  have HS := Lib.hid hS
  clear hT hS
  have h3 : (kk a1 ≤ 1000 ∧ (a1 < 0 ∧ kk a1 = 0 ∨ 1000 < a1 ∧ Hid (kk a1 = 1000) ∨ 0 ≤ a1 ∧ a1 ≤ 1000 ∧ a1 = (kk a1 : Int))) := kk_is a1
  generalize kk a1 = n at *
  obtain ⟨hn, h3⟩ := h3
  rcases h3 with ⟨q, rfl⟩ | ⟨q, HK⟩ | ⟨q0, q1, rfl⟩
  all_goals
    go_enter Try.func21, Try.ntmps21
    go_wp2_with (go_at_call 13; refine (new13 _ _).mono ?_; rintro e w' ⟨rfl, rfl⟩)
    have hsm := Smo.made w (4 * wi a0) (wi a0)
    have hbe := below_new w (.cells #[.int .i64 (4 * wi a0), .int .i64 (wi a0)] 76)
    generalize (w.alloc (.cells #[.int .i64 (4 * wi a0), .int .i64 (wi a0)] 76)) = w2 at *
  · go_loopw [6, 11] (fun a i wr => a = .int .i64 0 ∧ i = .int .i64 0 ∧ Below w.heap.size w wr) (fun _ _ _ => 0)
    case atStart => exact ⟨rfl, rfl, hbe⟩
    case round =>
      obtain ⟨rfl, rfl, hb⟩ := hrel
      go_wp2
      go_ret
      exact ⟨rfl, hb⟩
  · go_loopw [6, 11] (fun a i wr => ∃ k : Nat, k ≤ n ∧ a = .int .i64 (smT (wi a0) k) ∧ i = .int .i64 k ∧ Smo wr w.heap.size (4 * wi a0) (itT (wi a0) k) ∧ Below w.heap.size w wr) (fun _ i _ => n - (intOf i).toNat)
    case atStart => exact ⟨0, by omega, rfl, rfl, hsm, hbe⟩
    case round =>
      obtain ⟨k, hk, rfl, rfl, hs, hb⟩ := hrel
      have hT := HT.out k
      have hS := HS.out k
      by_cases hlt : (k : Int) < 1000
      · go_wp2_with (first
          | (go_at_call 15; refine (t15 _ _ _ _ (by assumption)).mono ?_; rintro e w' ⟨rfl, rfl⟩)
          | (go_at_call 17; refine (none17 _ _ _ _ (by assumption) hT.1 hT.2).mono ?_; rintro e w3 ⟨rfl, hs3, hg3⟩))
        go_roundw
        case rel => exact ⟨k + 1, by have := HK.out; omega, rfl, by go_num, hs3, hb.grown hg3 hb.size (fun k hk => by cases hk; exact Nat.le_refl _)⟩
        case measure => have := HK.out; simp [intOf]; omega
      · obtain rfl : k = n := by have := HK.out; omega
        go_wp2
        go_ret
        exact ⟨rfl, hb⟩
  · go_loopw [6, 11] (fun a i wr => ∃ k : Nat, k ≤ n ∧ a = .int .i64 (smT (wi a0) k) ∧ i = .int .i64 k ∧ Smo wr w.heap.size (4 * wi a0) (itT (wi a0) k) ∧ Below w.heap.size w wr) (fun _ i _ => n - (intOf i).toNat)
    case atStart => exact ⟨0, by omega, rfl, rfl, hsm, hbe⟩
    case round =>
      obtain ⟨k, hk, rfl, rfl, hs, hb⟩ := hrel
      have hT := HT.out k
      have hS := HS.out k
      by_cases hlt : k < n
      · go_wp2_with (first
          | (go_at_call 15; refine (t15 _ _ _ _ (by assumption)).mono ?_; rintro e w' ⟨rfl, rfl⟩)
          | (go_at_call 17; refine (none17 _ _ _ _ (by assumption) hT.1 hT.2).mono ?_; rintro e w3 ⟨rfl, hs3, hg3⟩))
        go_roundw
        case rel => exact ⟨k + 1, by omega, rfl, by go_num, hs3, hb.grown hg3 hb.size (fun k hk => by cases hk; exact Nat.le_refl _)⟩
        case measure => simp [intOf]; omega
      · obtain rfl : k = n := by omega
        go_wp2
        go_ret
        exact ⟨rfl, hb⟩
set_option maxHeartbeats 2000000 in
theorem sum22 (a0 a1 : Int) (w : World) : Calls Try.prog 22 #[.int .i64 a0, .int .i64 a1] w fun e w' => e = .returned (.int .i64 (smT (wi a0) (kk a1))) ∧ Below w.heap.size w w' := by
  have hbd := wi_bd a0
  have hT : ∀ n, 4 ≤ itT (wi a0) n ∧ itT (wi a0) n ≤ 255 := itT_bd _ hbd.1 hbd.2
  have hS : ∀ n : Nat, 4 * (n : Int) ≤ smT (wi a0) n ∧ smT (wi a0) n ≤ 255 * (n : Int) := smT_bd _ hbd.1 hbd.2
  have HT := Lib.hid hT
  have HS := Lib.hid hS
  clear hT hS
  go_enter Try.func22, Try.ntmps22
  go_wp2_with (go_at_call 14; refine (new14 _ _).mono ?_; rintro e w1 ⟨rfl, hb1⟩)
  have hw0 : W2 (w1.alloc (.cells #[.int .i64 (4 * wi a0), .int .i64 (wi a0)] 27)) w1.heap.size (4 * wi a0) (wi a0) := heap_new w1 _
  have hbe := hb1.alloc hb1.size (.cells #[.int .i64 (4 * wi a0), .int .i64 (wi a0)] 27)
  have hB := hb1.size
  generalize (w1.alloc (.cells #[.int .i64 (4 * wi a0), .int .i64 (wi a0)] 27)) = w2 at *
  generalize w1.heap.size = B at *
  clear hb1
  go_loopw [5, 7] (fun a i wr => ∃ k : Nat, k ≤ kk a1 ∧ a = .int .i64 (smT (wi a0) k) ∧ i = .int .i64 k ∧ W2 wr B (4 * wi a0) (itT (wi a0) k) ∧ Below w.heap.size w wr) (fun _ i _ => kk a1 - (intOf i).toNat)
  case atStart => exact ⟨0, by omega, rfl, rfl, hw0, hbe⟩
  case round =>
    obtain ⟨k, hk, rfl, rfl, hs, hb⟩ := hrel
    have hT := HT.out k
    have hS := HS.out k
    have hK := kk_is a1
    have d0 := hs.d0
    have d1 := hs.d1
    have g0 := hs.g 0
    have g1 := hs.g 1
    clear hw0 hbe
    by_cases hlt : k < kk a1
    · have q0 : (k : Int) < a1 := by unfold Hid at hK; omega
      have q1 : (k : Int) < 1000 := by omega
      have HK := Lib.hid hK
      have HL := Lib.hid hlt
      clear hK hlt
      go_wp2_with (go_at_call 18; refine (none18 _ _ _ hT.1 hT.2).mono ?_; rintro e w4 ⟨rfl, hb4⟩; have hw4 := hs.below hb4 (W2.lt hs); have d0 := hw4.d0; have d1 := hw4.d1; have g0 := hw4.g 0; have g1 := hw4.g 1)
      go_roundw
      case rel => exact ⟨k + 1, HL.out, rfl, by go_num, hw4.set, ((hb.trans (hb4.mono hb.size)).setCell hB _).setCell hB _⟩
      case measure => have := HL.out; simp [intOf]; omega
    · obtain rfl : k = kk a1 := by omega
      clear hlt
      by_cases q0 : (kk a1 : Int) < a1
      · have q1 : ¬ (kk a1 : Int) < 1000 := by unfold Hid at hK; omega
        clear hK
        go_wp2
        go_ret
        exact ⟨rfl, hb⟩
      · clear hK
        go_wp2
        go_ret
        exact ⟨rfl, hb⟩
set_option maxHeartbeats 2000000 in
theorem walk (a0 : Int) (a1 : Int) (w0 : (Lit.int .i64 a0).wf = true) (w1 : (Lit.int .i64 a1).wf = true) (w : World) :
    Calls Try.prog 6 #[.int .i64 a0, .int .i64 a1] w fun e w' => e = .returned (.bool true) ∧ Below w.heap.size w w' := by
  have hbd := wi_bd a0
  have hS := smT_bd _ hbd.1 hbd.2 (kk a1)
  have hK := kk_is a1
  have q : (a1 < 0 ∧ kk a1 = 0) ∨ (1000 < a1 ∧ (kk a1 : Int) = 1000) ∨ (0 ≤ a1 ∧ a1 ≤ 1000 ∧ a1 = (kk a1 : Int)) := by unfold Hid at hK; omega
  have k21 := sum21 a0 a1
  have k22 := sum22 a0 a1
  have K21 := Lib.hid k21
  have K22 := Lib.hid k22
  clear k21 k22 hK
  generalize smT (wi a0) (kk a1) = n at *
  generalize kk a1 = k at *
  rcases q with ⟨q, rfl⟩ | ⟨q, q1⟩ | ⟨q0, q1, q2⟩
  · have hn : n = 0 := by simp at hS; omega
    subst hn
    go_enter Try.func6, Try.ntmps6
    go_wp2_with (first
      | (go_at_call 12; refine (awake12 _).mono ?_; rintro e w1 ⟨rfl, hb1⟩)
      | (go_at_call 21; refine (K21.out _).mono ?_; rintro e w2 ⟨rfl, hb2⟩)
      | (go_at_call 22; refine (K22.out _).mono ?_; rintro e w3 ⟨rfl, hb3⟩)
      | (go_at_call 15; refine (t15_nil _).mono ?_; rintro e w4 ⟨rfl, rfl⟩)
      | (go_at_call 16; refine (t16_nil _).mono ?_; rintro e w5 ⟨rfl, rfl⟩)
      | (go_at_call 17; refine (t17_nil _).mono ?_; rintro e w6 ⟨rfl, rfl⟩)
      | (go_at_call 19; refine (t19_nil _ _).mono ?_; rintro e w7 ⟨rfl, rfl⟩))
    go_ret
    exact ⟨rfl, hb1.trans ((hb2.mono hb1.size).trans (hb3.mono (Nat.le_trans hb1.size hb2.size)))⟩
  · obtain ⟨s0, s1⟩ := hS
    rw [q1] at s0 s1
    clear q1
    go_enter Try.func6, Try.ntmps6
    go_wp2_with (first
      | (go_at_call 12; refine (awake12 _).mono ?_; rintro e w1 ⟨rfl, hb1⟩)
      | (go_at_call 21; refine (K21.out _).mono ?_; rintro e w2 ⟨rfl, hb2⟩)
      | (go_at_call 22; refine (K22.out _).mono ?_; rintro e w3 ⟨rfl, hb3⟩)
      | (go_at_call 15; refine (t15_nil _).mono ?_; rintro e w4 ⟨rfl, rfl⟩)
      | (go_at_call 16; refine (t16_nil _).mono ?_; rintro e w5 ⟨rfl, rfl⟩)
      | (go_at_call 17; refine (t17_nil _).mono ?_; rintro e w6 ⟨rfl, rfl⟩)
      | (go_at_call 19; refine (t19_nil _ _).mono ?_; rintro e w7 ⟨rfl, rfl⟩))
    go_ret
    exact ⟨rfl, hb1.trans ((hb2.mono hb1.size).trans (hb3.mono (Nat.le_trans hb1.size hb2.size)))⟩
  · obtain ⟨s0, s1⟩ := hS
    rw [← q2] at s0 s1
    clear q2
    go_enter Try.func6, Try.ntmps6
    go_wp2_with (first
      | (go_at_call 12; refine (awake12 _).mono ?_; rintro e w1 ⟨rfl, hb1⟩)
      | (go_at_call 21; refine (K21.out _).mono ?_; rintro e w2 ⟨rfl, hb2⟩)
      | (go_at_call 22; refine (K22.out _).mono ?_; rintro e w3 ⟨rfl, hb3⟩)
      | (go_at_call 15; refine (t15_nil _).mono ?_; rintro e w4 ⟨rfl, rfl⟩)
      | (go_at_call 16; refine (t16_nil _).mono ?_; rintro e w5 ⟨rfl, rfl⟩)
      | (go_at_call 17; refine (t17_nil _).mono ?_; rintro e w6 ⟨rfl, rfl⟩)
      | (go_at_call 19; refine (t19_nil _ _).mono ?_; rintro e w7 ⟨rfl, rfl⟩))
    go_ret
    exact ⟨rfl, hb1.trans ((hb2.mono hb1.size).trans (hb3.mono (Nat.le_trans hb1.size hb2.size)))⟩

/-! ### THE ROW's STEP: WRITTEN OUT: LEAVE IT -/
set_option maxRecDepth 100000 in
theorem lifted (os : Os) (started : os.Started) (H : Type) (enc : TypeId × Value → H) :
    ReturnsInHanded {} Try.checked os 6 .any (Rows.smoothSumsSpec.pre6 enc Try.prog Try.f6 Rows.smoothSumsRow.domain false) (Rows.smoothSumsSpec.post enc Try.prog Try.f6 false true false false) := by
  refine returnsInHanded_of_change (C := Try.checked) own started (by kernel_rfl) Try.func6
    (ChangeSpec.witness6 (enc := enc) (C := Try.checked) false ⟨#[], #[.int .i64 0, .int .i64 0], []⟩ 8 (by kernel_rfl) (by kernel_rfl) (by kernel_rfl) (by kernel_rfl)) ?_
  intro W base args ds gs before hval0 hW hcnd _
  have hval : ∀ (j : Nat) t v, Try.f6.params[j]? = some t → args[j]? = some v → Value.okWide Try.prog W .any base t v := hval0
  have hW' := hW
  obtain ⟨p, q, hA0, hV, rfl, hfz, hnd⟩ := hW
  have hA : DataW.TrodAll enc Try.prog W 0 (fun _ => true) true Try.f6.params.toList args.toList ds p := hA0
  rw [Try.params6] at hA hval
  obtain ⟨v0, vs0, d0, ds0, p0, q0, hargs, rfl, rfl, h0, r0⟩ := trodAll_cons hA
  obtain ⟨v1, vs1, d1, ds1, p1, q1, rfl, rfl, rfl, h1, r1⟩ := trodAll_cons r0
  obtain ⟨rfl, rfl, rfl⟩ := trodAll_nil r1
  obtain rfl : args = #[v0, v1] := by cases args; simp_all
  obtain ⟨rfl, rfl⟩ := trodVars_none hV
  obtain ⟨a0, rfl, rfl, rfl, w0⟩ := open_int Try.underlying3 (hval 0 3 v0 rfl rfl) h0
  obtain ⟨a1, rfl, rfl, rfl, w1⟩ := open_int Try.underlying3 (hval 1 3 v1 rfl rfl) h1
  clear hA0 hval0
  simp only [List.append_nil] at hW'
  refine (walk a0 a1 w0 w1 W).mono fun e W' ⟨he, hg⟩ => ?_
  subst he
  exact ⟨_, rfl, _, _, _, [], _, [], hW', (trodAll_cons_mk (shut_bool Try.underlying4 _) trodAll_mk0), (trodAll_cons_mk (shut_int Try.underlying3 w0) (trodAll_cons_mk (shut_int Try.underlying3 w1) trodAll_mk0)), rfl, hg.frame _, fun h => by cases h⟩

theorem over : Rows.smoothSumsRow.holds Try.pinned (OpenSpec.ofChange Rows.smoothSumsSpec) :=
  OpenClaim.holds_of_wide 6 Try.f6 rfl rfl rfl rfl rfl rfl rfl ⟨rfl, rfl, rfl, rfl, rfl⟩ rfl rfl rfl rfl rfl (by kernel_rfl) Try.func6 (by kernel_rfl)
    (of_decide_eq_true (by kernel_rfl)) (by unfold Func.isWrapper; first | (rw [if_pos (by decide +kernel)]; kernel_rfl) | (rw [if_neg (by decide +kernel)]; exact ⟨rfl, rfl⟩))
    (fun os started H enc _ => lifted os started H enc)

/-- ████ THE STATEMENT ████ -/
theorem proved : Rows.SmoothSumsSaid :=
  over
#print axioms proved
end Go.Proofs.Ytfloemimimkgaaa.smoothSums
