/- SmoothComes returns true for every input, and leaves what it was handed as it was; no condition beside the form's own. -/
import Derived.Test.YtfloemimimkgaaaSm
import Derived.Test.YtfloemimimkgaaaRows
import Derived.WalkKit
import Derived.ProofKit
import Derived.OpenShut
import Derived.ShutString
import Derived.ChangeOld
import Derived.Below
namespace Go.Proofs.Ytfloemimimkgaaa.smoothComes
open Go.ChangeShapes Go.WideShapes Go.ChangeAt Go.RowKit
open Go.ChangeMaps (open_string shut_string)
set_option linter.unusedVariables false      -- a walk need not use every 'w<i>' (that an integer argument fits its kind)

theorem own : ownKnob Try.prog.godebug = none := by kernel_rfl

/-- So many answers, each of which took t. -/
def itS (t : Int) : Nat → Int → Int
  | 0, s => s
  | n + 1, s => sN (itS t n s) t
theorem itS_mono (t : Int) (n : Nat) (a b : Int) (h : a ≤ b) : itS t n a ≤ itS t n b := by
  induction n with
  | zero => exact h
  | succ n ih => simp only [itS, sN]; omega
theorem itS_ends : ∀ t : Fin 256, 8 * (t.val : Int) ≤ itS t.val 60 16 ∧ itS t.val 60 1020 ≤ 8 * (t.val : Int) + 7 := by decide +kernel
theorem itS_60 (t s : Int) (h0 : 0 ≤ t) (h1 : t ≤ 255) (h2 : 16 ≤ s) (h3 : s ≤ 1020) : 8 * t ≤ itS t 60 s ∧ itS t 60 s ≤ 8 * t + 7 := by
  have e := itS_ends ⟨t.toNat, by omega⟩
  have ht : ((t.toNat : Nat) : Int) = t := by omega
  simp only [ht] at e
  have a := itS_mono t 60 _ _ h2
  have b := itS_mono t 60 _ _ h3
  omega
theorem itS_stays (t s : Int) (h0 : 0 ≤ t) (h1 : t ≤ 255) (h2 : 16 ≤ s) (h3 : s ≤ 1020) (n : Nat) : 8 * t ≤ itS t (60 + n) s ∧ itS t (60 + n) s ≤ 8 * t + 7 := by
  induction n with
  | zero => exact itS_60 t s h0 h1 h2 h3
  | succ n ih => rw [show 60 + (n + 1) = (60 + n) + 1 by omega]; simp only [itS, sN]; unfold clp; omega
theorem itS_bd (t s : Int) (h0 : 0 ≤ s) (h1 : s ≤ 2047) (n : Nat) : 0 ≤ itS t n s ∧ itS t n s ≤ 2047 := by
  induction n with
  | zero => exact ⟨h0, h1⟩
  | succ n ih => exact sN_bd _ _ ih.1 ih.2
theorem got_near (t s : Int) (h0 : 0 ≤ t) (h1 : t ≤ 255) (h2 : 16 ≤ s) (h3 : s ≤ 1020) (k : Nat) (hk : 60 ≤ k) : tN (itS t k s) t ≤ wi (2 * t) + 3 ∧ wi (2 * t) - 3 ≤ tN (itS t k s) t := by
  obtain ⟨n, rfl⟩ : ∃ n, k = 60 + n := ⟨k - 60, by omega⟩
  have a := itS_stays t s h0 h1 h2 h3 (n + 1)
  rw [show 60 + (n + 1) = (60 + n) + 1 by omega] at a
  simp only [itS] at a
  unfold tN wi; omega

set_option maxHeartbeats 2000000 in
theorem walk (a0 : Int) (a1 : Int) (a2 : Int) (w0 : (Lit.int .i64 a0).wf = true) (w1 : (Lit.int .u8 a1).wf = true) (w2 : (Lit.int .u8 a2).wf = true) (w : World) :
    Calls Try.prog 4 #[.int .i64 a0, .int .u8 a1, .int .u8 a2] w fun e w' => e = .returned (.bool true) ∧ Below w.heap.size w w' := by
  have ⟨ht0, ht1⟩ := bounds_u8 w1
  have ⟨hm0, hm1⟩ := bounds_u8 w2
  have hbd := wi_bd a0
  obtain ⟨m, rfl⟩ := Int.eq_ofNat_of_zero_le hm0
  have hwant : ∀ k : Nat, 60 ≤ k → tN (itS a1 k (4 * wi a0)) a1 ≤ wi (2 * a1) + 3 ∧ wi (2 * a1) - 3 ≤ tN (itS a1 k (4 * wi a0)) a1 := fun k => got_near a1 _ ht0 ht1 (by omega) (by omega) k
  have hsbd : ∀ k : Nat, 0 ≤ itS a1 k (4 * wi a0) ∧ itS a1 k (4 * wi a0) ≤ 2047 := fun k => itS_bd a1 _ (by omega) (by omega) k
  have HW := Lib.hid hwant
  have HB := Lib.hid hsbd
  clear hwant hsbd
  go_enter Try.func4, Try.ntmps4
  go_wp2_with (first
    | (go_at_call 12; refine (awake12 _).mono ?_; rintro e w1 ⟨rfl, hb1⟩)
    | (go_at_call 13; refine (new13 _ _).mono ?_; rintro e w' ⟨rfl, rfl⟩))
  have hsm := Smo.made w1 (4 * wi a0) (wi a0)
  have hbe := hb1.alloc hb1.size (.cells #[.int .i64 (4 * wi a0), .int .i64 (wi a0)] 76)
  have hB := hb1.size
  generalize w1.heap.size = B at *
  generalize (w1.alloc (.cells #[.int .i64 (4 * wi a0), .int .i64 (wi a0)] 76)) = w2 at *
  clear hb1
  go_loopw [8] (fun i wr => ∃ (k : Nat) (t : Int), k ≤ 60 + m ∧ i = .int .i64 k ∧ Smo wr B (itS a1 k (4 * wi a0)) t ∧ Below w.heap.size w wr) (fun i _ => 60 + m - (intOf i).toNat)
  case atStart => exact ⟨0, _, by omega, rfl, hsm, hbe⟩
  case round =>
    obtain ⟨k, t, hk, rfl, hs, hb⟩ := hrel
    have hw0 := HW.out k
    have hb0 := HB.out k
    clear hsm hbe
    have hf : wi (2 * a1) = if 2 * a1 < 4 then 4 else if 255 < 2 * a1 then 255 else 2 * a1 := rfl
    have hst : itS a1 (k + 1) (4 * wi a0) = sN (itS a1 k (4 * wi a0)) a1 := rfl
    have HS := Lib.hid hst
    clear hst
    generalize itS a1 k (4 * wi a0) = s at *
    by_cases hlt : k < 60 + m
    · by_cases h60 : 60 ≤ k
      · have hw1 := hw0 h60
        have hv3 : (2 * a1 < 4 ∧ wi (2 * a1) = 4) ∨ (255 < 2 * a1 ∧ wi (2 * a1) = 255) ∨ (4 ≤ 2 * a1 ∧ 2 * a1 ≤ 255 ∧ wi (2 * a1) = 2 * a1) := by rw [hf]; omega
        rcases hv3 with ⟨q0, hv⟩ | ⟨q0, hv⟩ | ⟨q0, q1, hv⟩
        all_goals
          rw [hv] at hw1
          obtain ⟨r0, r1⟩ := hw1
          clear hv hf hw0
          go_wp2_with (go_at_call 19; refine (took19 _ s t _ _ (by assumption) hb0.1 (by omega)).mono ?_; rintro e w3 ⟨rfl, hs3, hg3⟩)
          go_roundw
          case rel => exact ⟨k + 1, _, by omega, by go_num, by rw [HS.out]; exact hs3, hb.grown hg3 hb.size (fun k hk => by cases hk; exact hB)⟩
          case measure => simp [intOf]; omega
      · clear hf hw0
        go_wp2_with (go_at_call 19; refine (took19 _ s t _ _ (by assumption) hb0.1 (by omega)).mono ?_; rintro e w3 ⟨rfl, hs3, hg3⟩)
        all_goals
          go_roundw
          case rel => exact ⟨k + 1, _, by omega, by go_num, by rw [HS.out]; exact hs3, hb.grown hg3 hb.size (fun k hk => by cases hk; exact hB)⟩
          case measure => simp [intOf]; omega
    · go_wp2
      go_ret
      exact ⟨rfl, hb⟩

/-! ### THE ROW's STEP: WRITTEN OUT: LEAVE IT -/
set_option maxRecDepth 100000 in
theorem lifted (os : Os) (started : os.Started) (H : Type) (enc : TypeId × Value → H) :
    ReturnsInHanded {} Try.checked os 4 .any (Rows.smoothComesSpec.pre6 enc Try.prog Try.f4 Rows.smoothComesRow.domain false) (Rows.smoothComesSpec.post enc Try.prog Try.f4 false true false false) := by
  refine returnsInHanded_of_change (C := Try.checked) own started (by kernel_rfl) Try.func4
    (ChangeSpec.witness6 (enc := enc) (C := Try.checked) false ⟨#[], #[.int .i64 0, .int .u8 0, .int .u8 0], []⟩ 8 (by kernel_rfl) (by kernel_rfl) (by kernel_rfl) (by kernel_rfl)) ?_
  intro W base args ds gs before hval0 hW hcnd _
  have hval : ∀ (j : Nat) t v, Try.f4.params[j]? = some t → args[j]? = some v → Value.okWide Try.prog W .any base t v := hval0
  have hW' := hW
  obtain ⟨p, q, hA0, hV, rfl, hfz, hnd⟩ := hW
  have hA : DataW.TrodAll enc Try.prog W 0 (fun _ => true) true Try.f4.params.toList args.toList ds p := hA0
  rw [Try.params4] at hA hval
  obtain ⟨v0, vs0, d0, ds0, p0, q0, hargs, rfl, rfl, h0, r0⟩ := trodAll_cons hA
  obtain ⟨v1, vs1, d1, ds1, p1, q1, rfl, rfl, rfl, h1, r1⟩ := trodAll_cons r0
  obtain ⟨v2, vs2, d2, ds2, p2, q2, rfl, rfl, rfl, h2, r2⟩ := trodAll_cons r1
  obtain ⟨rfl, rfl, rfl⟩ := trodAll_nil r2
  obtain rfl : args = #[v0, v1, v2] := by cases args; simp_all
  obtain ⟨rfl, rfl⟩ := trodVars_none hV
  obtain ⟨a0, rfl, rfl, rfl, w0⟩ := open_int Try.underlying3 (hval 0 3 v0 rfl rfl) h0
  obtain ⟨a1, rfl, rfl, rfl, w1⟩ := open_int Try.underlying5 (hval 1 5 v1 rfl rfl) h1
  obtain ⟨a2, rfl, rfl, rfl, w2⟩ := open_int Try.underlying5 (hval 2 5 v2 rfl rfl) h2
  clear hA0 hval0
  simp only [List.append_nil] at hW'
  refine (walk a0 a1 a2 w0 w1 w2 W).mono fun e W' ⟨he, hg⟩ => ?_
  subst he
  exact ⟨_, rfl, _, _, _, [], _, [], hW', (trodAll_cons_mk (shut_bool Try.underlying4 _) trodAll_mk0), (trodAll_cons_mk (shut_int Try.underlying3 w0) (trodAll_cons_mk (shut_int Try.underlying5 w1) (trodAll_cons_mk (shut_int Try.underlying5 w2) trodAll_mk0))), rfl, hg.frame _, fun h => by cases h⟩

theorem over : Rows.smoothComesRow.holds Try.pinned (OpenSpec.ofChange Rows.smoothComesSpec) :=
  OpenClaim.holds_of_wide 4 Try.f4 rfl rfl rfl rfl rfl rfl rfl ⟨rfl, rfl, rfl, rfl, rfl⟩ rfl rfl rfl rfl rfl (by kernel_rfl) Try.func4 (by kernel_rfl)
    (of_decide_eq_true (by kernel_rfl)) (by unfold Func.isWrapper; first | (rw [if_pos (by decide +kernel)]; kernel_rfl) | (rw [if_neg (by decide +kernel)]; exact ⟨rfl, rfl⟩))
    (fun os started H enc _ => lifted os started H enc)

/-- ████ THE STATEMENT ████ -/
theorem proved : Rows.SmoothComesSaid :=
  over
#print axioms proved
end Go.Proofs.Ytfloemimimkgaaa.smoothComes
