/- SeqNumbers returns true for every input, and leaves what it was handed as it was; no condition beside the form's own. -/
import Derived.Test.YtfloemimimkgaaaFar
import Derived.Test.YtfloemimimkgaaaRows
import Derived.WalkKit
import Derived.ProofKit
import Derived.OpenShut
import Derived.ShutString
import Derived.ChangeOld
import Derived.Below
namespace Go.Proofs.Ytfloemimimkgaaa.seqNumbers
open Go.ChangeShapes Go.WideShapes Go.ChangeAt Go.RowKit
open Go.ChangeMaps (open_string shut_string)
set_option linter.unusedVariables false

theorem own : ownKnob Try.prog.godebug = none := by kernel_rfl
theorem laidOut : laidOutB Try.prog = true := by kernel_rfl

theorem step_eq {m a x r : Int} (h : stepI m a x = r) (w : World) : Calls Try.prog 27 #[.int .i64 m, .int .i64 a, .int .i64 x] w fun e w' => e = .returned (.int .i64 r) ∧ Below w.heap.size w w' := h ▸ step27 m a x w
theorem far_there {m a c : Int} (h : ok2B m a c = true) : stepI m a (farI m a c) = c ∧ stepI m c (-farI m a c) = a ∧ stepI m a m = a := by
  have hm : (m = 8 ∨ m = 128) ∧ 0 ≤ a ∧ a < m ∧ 0 ≤ c ∧ c < m := by simp [ok2B, inB, modB] at h; omega
  have hf := farI_bd h
  have he : farI m a c = (c - a + m) % m := by rw [farI, if_pos h]
  obtain ⟨hm, h1, h2, h3, h4⟩ := hm
  have o1 : ok1B m a = true := by simp [ok1B, inB, modB, h1, h2, hm]
  have o2 : ok1B m c = true := by simp [ok1B, inB, modB, h3, h4, hm]
  have t1 : (farI m a c).tmod m = farI m a c := Int.tmod_eq_of_lt hf.1 hf.2
  have t2 : (-farI m a c).tmod m = -farI m a c := by rw [Int.neg_tmod, t1]
  have t3 : m.tmod m = 0 := Int.tmod_self
  simp only [stepI, o1, o2, if_true, t1, t2, t3]
  rw [he]
  rcases hm with rfl | rfl
  · omega
  · omega
set_option maxHeartbeats 4000000 in
theorem walk (a0 : Int) (a1 : Int) (a2 : Int) (w : World) (w0 : (Lit.int .i64 a0).wf = true) (w1 : (Lit.int .i64 a1).wf = true) (w2 : (Lit.int .i64 a2).wf = true) :
    Calls Try.prog 7 #[.int .i64 a0, .int .i64 a1, .int .i64 a2] w fun e w' => e = .returned (.bool true) ∧ Below w.heap.size w w' := by
  cases h : ok2B a0 a1 a2
  · have hf : farI a0 a1 a2 = -1 := by simp [farI, h]
    have k24 := far24 a0 a1 a2
    have k25 := far25 a0 a1 a2
    rw [hf] at k24 k25
    have K24 := Lib.hid k24
    have K25 := Lib.hid k25
    have K26 := Lib.hid (fun w : World => right2 a0 a1 a2 w.heap.size _ (nc20 w (.int .i64 a1) (.int .i64 a2) 3) (nc21 w (.int .i64 a1) (.int .i64 a2) 3))
    rw [h] at K26
    clear k24 k25 hf h
    go_enter Try.func7, Try.ntmps7
    go_wp2_with fail
    refine (awake23 _).mono ?_
    rintro e w1 ⟨rfl, hb1⟩
    go_wp2_with fail
    refine (K24.out _).mono ?_
    rintro e w2 ⟨rfl, rfl⟩
    go_wp2_with fail
    refine (K25.out _).mono ?_
    rintro e w3 ⟨rfl, hb3⟩
    go_wp2_with fail
    refine (K26.out _).mono ?_
    rintro e w4 ⟨rfl, rfl⟩
    have hb4 := (hb1.trans (hb3.mono hb1.size)).alloc (Nat.le_trans hb1.size hb3.size) (.cells #[.int .i64 a1, .int .i64 a2] 3)
    generalize w3.alloc (.cells #[.int .i64 a1, .int .i64 a2] 3) = w5 at *
    cases h1 : ok1B a0 a1
    · have hs : stepI a0 a1 0 = -1 := by simp [stepI, h1]
      have hs5 := step_eq hs w5
      have HS := Lib.hid hs5
      clear hs hs5 h1
      go_wp2_with fail
      refine HS.out.mono ?_
      rintro e w6 ⟨rfl, hb6⟩
      go_wp2
      go_ret
      exact ⟨rfl, hb4.trans (hb6.mono hb4.size)⟩
    · have hs : stepI a0 a1 0 = (a1 + 0 + a0) % a0 := by simp [stepI, h1]
      have hs5 := step27 a0 a1 0 w5
      have K26b := Lib.hid (fun w : World => right1 a0 a1 w.heap.size _ (nc0 w (.int .i64 a1) 3))
      rw [h1] at K26b
      have hne : (stepI a0 a1 0 == -1) = false := by
        have hm : (a0 = 8 ∨ a0 = 128) ∧ 0 ≤ a1 ∧ a1 < a0 := by simp [ok1B, inB, modB] at h1; omega
        have : 0 ≤ (a1 + 0 + a0) % a0 := Int.emod_nonneg _ (by omega)
        rw [hs]; simp only [beq_eq_false_iff_ne, ne_eq]; omega
      have HS := Lib.hid hs5
      clear hs hs5 h1
      generalize stepI a0 a1 0 = z at *
      go_wp2_with fail
      refine HS.out.mono ?_
      rintro e w6 ⟨rfl, hb6⟩
      go_wp2_with fail
      refine (K26b.out _).mono ?_
      rintro e w7 ⟨rfl, rfl⟩
      go_wp2
      go_ret
      exact ⟨rfl, (hb4.trans (hb6.mono hb4.size)).alloc (Nat.le_trans hb4.size hb6.size) _⟩
  · have hf := farI_bd h
    obtain ⟨t1, t2, t3⟩ := far_there h
    have hm : (a0 = 8 ∨ a0 = 128) := by simp [ok2B, inB, modB] at h; omega
    have k24 := far24 a0 a1 a2
    have k25 := far25 a0 a1 a2
    have K24 := Lib.hid k24
    have K25 := Lib.hid k25
    have K26 := Lib.hid (fun w : World => right2 a0 a1 a2 w.heap.size _ (nc20 w (.int .i64 a1) (.int .i64 a2) 3) (nc21 w (.int .i64 a1) (.int .i64 a2) 3))
    rw [h] at K26
    have T1 := Lib.hid (step_eq t1)
    have T2 := Lib.hid (step_eq t2)
    have T3 := Lib.hid (step_eq t3)
    obtain ⟨f0, f1⟩ := hf
    have fm : a0 ≤ 128 := by omega
    clear k24 k25 h hm t1 t2 t3
    generalize farI a0 a1 a2 = f at *
    go_enter Try.func7, Try.ntmps7
    go_wp2_with fail
    refine (awake23 _).mono ?_
    rintro e w1 ⟨rfl, hb1⟩
    go_wp2_with fail
    refine (K24.out _).mono ?_
    rintro e w2 ⟨rfl, rfl⟩
    go_wp2_with fail
    refine (K25.out _).mono ?_
    rintro e w3 ⟨rfl, hb3⟩
    go_wp2_with fail
    refine (K26.out _).mono ?_
    rintro e w4 ⟨rfl, rfl⟩
    have hb4 := (hb1.trans (hb3.mono hb1.size)).alloc (Nat.le_trans hb1.size hb3.size) (.cells #[.int .i64 a1, .int .i64 a2] 3)
    generalize w3.alloc (.cells #[.int .i64 a1, .int .i64 a2] 3) = w5 at *
    go_wp2_with fail
    refine (T1.out _).mono ?_
    rintro e w6 ⟨rfl, hb6⟩
    have hb6' := hb4.trans (hb6.mono hb4.size)
    go_wp2_with fail
    refine (T2.out _).mono ?_
    rintro e w7 ⟨rfl, hb7⟩
    have hb7' := hb6'.trans (hb7.mono hb6'.size)
    go_wp2_with fail
    refine (T3.out _).mono ?_
    rintro e w8 ⟨rfl, hb8⟩
    go_wp2
    go_ret
    exact ⟨rfl, hb7'.trans (hb8.mono hb7'.size)⟩

set_option maxRecDepth 100000 in
theorem lifted (os : Os) (started : os.Started) (H : Type) (enc : TypeId × Value → H) :
    ReturnsInHanded {} Try.checked os 7 .any (Rows.seqNumbersSpec.pre6 enc Try.prog Try.f7 Rows.seqNumbersRow.domain false) (Rows.seqNumbersSpec.post enc Try.prog Try.f7 false true false false) := by
  refine returnsInHanded_of_change (C := Try.checked) own started (by kernel_rfl) Try.func7
    (ChangeSpec.witness6 (enc := enc) (C := Try.checked) false ⟨#[], #[.int .i64 0, .int .i64 0, .int .i64 0], []⟩ 8 (by kernel_rfl) (by kernel_rfl) (by kernel_rfl) (by kernel_rfl)) ?_
  intro W base args ds gs before hval0 hW hcnd _
  have hval : ∀ (j : Nat) t v, Try.f7.params[j]? = some t → args[j]? = some v → Value.okWide Try.prog W .any base t v := hval0
  have hW' := hW
  obtain ⟨p, q, hA0, hV, rfl, hfz, hnd⟩ := hW
  have hA : DataW.TrodAll enc Try.prog W 0 (fun _ => true) true Try.f7.params.toList args.toList ds p := hA0
  rw [Try.params7] at hA hval
  obtain ⟨v0, vs0, d0, ds0, p0, q0, hargs, rfl, rfl, h0, r0⟩ := trodAll_cons hA
  obtain ⟨v1, vs1, d1, ds1, p1, q1, rfl, rfl, rfl, h1, r1⟩ := trodAll_cons r0
  obtain ⟨v2, vs2, d2, ds2, p2, q2, rfl, rfl, rfl, h2, r2⟩ := trodAll_cons r1
  obtain ⟨rfl, rfl, rfl⟩ := trodAll_nil r2
  obtain rfl : args = #[v0, v1, v2] := by cases args; simp_all
  obtain ⟨rfl, rfl⟩ := trodVars_none hV
  obtain ⟨a0, rfl, rfl, rfl, w0⟩ := open_int Try.underlying3 (hval 0 3 v0 rfl rfl) h0
  obtain ⟨a1, rfl, rfl, rfl, w1⟩ := open_int Try.underlying3 (hval 1 3 v1 rfl rfl) h1
  obtain ⟨a2, rfl, rfl, rfl, w2⟩ := open_int Try.underlying3 (hval 2 3 v2 rfl rfl) h2
  clear hA0 hval0
  refine (walk a0 a1 a2 W w0 w1 w2).mono fun e W' ⟨he, bel⟩ => ?_
  subst he
  exact ⟨_, rfl, _, _, _, [], _, [], hW', trodAll_mk1 (shut_bool Try.underlying4 _), (trodAll_cons_mk (shut_int Try.underlying3 w0) (trodAll_cons_mk (shut_int Try.underlying3 w1) (trodAll_cons_mk (shut_int Try.underlying3 w2) trodAll_mk0))), rfl, bel.frame _, fun h => by cases h⟩

theorem over : Rows.seqNumbersRow.holds Try.pinned (OpenSpec.ofChange Rows.seqNumbersSpec) :=
  OpenClaim.holds_of_wide 7 Try.f7 rfl rfl rfl rfl rfl rfl rfl ⟨rfl, rfl, rfl, rfl, rfl⟩ rfl rfl rfl rfl rfl (by kernel_rfl) Try.func7 (by kernel_rfl)
    (of_decide_eq_true (by kernel_rfl)) (by unfold Func.isWrapper; first | (rw [if_pos (by decide +kernel)]; kernel_rfl) | (rw [if_neg (by decide +kernel)]; exact ⟨rfl, rfl⟩))
    (fun os started H enc _ => lifted os started H enc)

theorem proved : Rows.SeqNumbersSaid := over
#print axioms proved
end Go.Proofs.Ytfloemimimkgaaa.seqNumbers
