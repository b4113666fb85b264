/- SeqStale returns true for every input, and leaves what it was handed as it was; no condition beside the form's own. -/
import Derived.Test.YtfloemimimkgaaaFar
import Derived.Test.YtfloemimimkgaaaRows
import Derived.WalkKit
import Derived.ProofKit
import Derived.OpenShut
import Derived.ShutString
import Derived.ChangeOld
import Derived.Below
namespace Go.Proofs.Ytfloemimimkgaaa.seqStale
open Go.ChangeShapes Go.WideShapes Go.ChangeAt Go.RowKit
open Go.ChangeMaps (open_string shut_string)
set_option linter.unusedVariables false

theorem own : ownKnob Try.prog.godebug = none := by kernel_rfl
theorem laidOut : laidOutB Try.prog = true := by kernel_rfl

theorem drain_one {m vr : Int} : drain m 1 vr [vr] = ([vr], (vr + 1) % m, []) := by simp [drain]
theorem farI_self {m a : Int} (hm : m = 8 ∨ m = 128) (h0 : 0 ≤ a) (h1 : a < m) : farI m a a = 0 := by
  have : ok2B m a a = true := by simp [ok2B, inB, modB, h0, h1, hm]
  rw [farI, if_pos this]
  rcases hm with rfl | rfl <;> omega
theorem ok1_of {m a : Int} (hm : m = 8 ∨ m = 128) (h0 : 0 ≤ a) (h1 : a < m) : ok1B m a = true := by simp [ok1B, inB, modB, h0, h1, hm]
theorem take_next {m k vr : Int} (hm : m = 8 ∨ m = 128) (hk : 1 ≤ k) (h0 : 0 ≤ vr) (h1 : vr < m) (b bm : Nat) (w : World) (h : InW w b bm m k vr []) :
    Calls Try.prog 29 #[.pointer (some ⟨b, 0, none⟩), .int .i64 vr] w (TakePost w b bm m k ([vr], (vr + 1) % m, [])) := by
  have := take_in b bm m k vr vr [] w h (ok1_of hm h0 h1) (by simp) (by rw [farI_self hm h0 h1]; omega) h0 h1 (by simp)
  rwa [show ([] : List Int).length + 1 = 1 from rfl, drain_one] at this
theorem held30q {w : World} {b bm : Nat} {m k vr : Int} {S : List Int} (h : InW w b bm m k vr S) (n : Nat) : Calls Try.prog 30 #[.pointer (some ⟨b, 0, none⟩)] (w.drewN n) fun e w' => e = .returned (.int .i64 S.length) ∧ ∃ m, w' = w.drewN m :=
  Calls.quiet_of_same ((held30 b bm m k vr S _ (h.drewN n)).mono fun _ _ h => ⟨h.1, h.2.symm⟩)
theorem vr31q {w : World} {b bm : Nat} {m k vr : Int} {S : List Int} (h : InW w b bm m k vr S) (n : Nat) : Calls Try.prog 31 #[.pointer (some ⟨b, 0, none⟩)] (w.drewN n) fun e w' => e = .returned (.int .i64 vr) ∧ ∃ m, w' = w.drewN m :=
  Calls.quiet_of_same ((vr31 b bm m k vr S _ (h.drewN n)).mono fun _ _ h => ⟨h.1, h.2.symm⟩)
set_option maxHeartbeats 8000000 in
theorem walk (a0 : Bool) (a1 : Int) (x2 y2 : Int) (w : World) (w1 : (Lit.int .i64 a1).wf = true) (wx : (Lit.int .u8 x2).wf = true) (wy : (Lit.int .u8 y2).wf = true) :
    Calls Try.prog 8 #[.bool a0, .int .i64 a1, .agg #[.int .u8 x2, .int .u8 y2]] w fun e w' => e = .returned (.bool true) ∧ Below w.heap.size w w' := by
  have ⟨bx0, bx1⟩ := bounds_u8 wx
  have ⟨by0, by1⟩ := bounds_u8 wy
  have ⟨bk0, bk1⟩ := bounds_i64 w1
  cases a0
  · by_cases hk : a1 < 1
    · go_enter Try.func8, Try.ntmps8
      go_wp2_with (go_at_call 23; refine (awake23 _).mono ?_; rintro e w1 ⟨rfl, hb1⟩)
      have hbe : Below w.heap.size w w1 := (below_new w _).trans (hb1.mono (by simp))
      have hbk : w1.heap[w.heap.size]? = some (.cells #[.int .u8 x2, .int .u8 y2] 35) := (hb1.block _ (by simp)).trans (heap_new w _)
      have c0 : w1.cell? ⟨w.heap.size, 0, none⟩ = some (.int .u8 x2) := by rw [cell_of hbk]; rfl
      have c1 : w1.cell? ⟨w.heap.size, 1, none⟩ = some (.int .u8 y2) := by rw [cell_of hbk]; rfl
      clear hb1 hbk
      go_quiet (fail)
      clear c0 c1
      go_wp2
      go_ret
      exact ⟨rfl, below_drewN hbe nq⟩
    · by_cases hk2 : 4 < a1
      · go_enter Try.func8, Try.ntmps8
        go_wp2_with (go_at_call 23; refine (awake23 _).mono ?_; rintro e w1 ⟨rfl, hb1⟩)
        have hbe : Below w.heap.size w w1 := (below_new w _).trans (hb1.mono (by simp))
        have hbk : w1.heap[w.heap.size]? = some (.cells #[.int .u8 x2, .int .u8 y2] 35) := (hb1.block _ (by simp)).trans (heap_new w _)
        have c0 : w1.cell? ⟨w.heap.size, 0, none⟩ = some (.int .u8 x2) := by rw [cell_of hbk]; rfl
        have c1 : w1.cell? ⟨w.heap.size, 1, none⟩ = some (.int .u8 y2) := by rw [cell_of hbk]; rfl
        clear hb1 hbk
        go_quiet (fail)
        clear c0 c1
        go_wp2
        go_ret
        exact ⟨rfl, below_drewN hbe nq⟩
      · go_enter Try.func8, Try.ntmps8
        go_wp2_with (go_at_call 23; refine (awake23 _).mono ?_; rintro e w1 ⟨rfl, hb1⟩)
        have hbe : Below w.heap.size w w1 := (below_new w _).trans (hb1.mono (by simp))
        have hbk : w1.heap[w.heap.size]? = some (.cells #[.int .u8 x2, .int .u8 y2] 35) := (hb1.block _ (by simp)).trans (heap_new w _)
        have c0 : w1.cell? ⟨w.heap.size, 0, none⟩ = some (.int .u8 x2) := by rw [cell_of hbk]; rfl
        have c1 : w1.cell? ⟨w.heap.size, 1, none⟩ = some (.int .u8 y2) := by rw [cell_of hbk]; rfl
        have hz1 := hbe.size
        clear hb1 hbk
        go_quiet (fail)
        clear c0 c1
        go_wp2_with fail
        refine (newIn28 8 a1 _ (by decide) (by omega) (by omega)).mono ?_
        rintro e w2 ⟨rfl, hin, hb2⟩
        have hbe2 := (below_drewN hbe nq).trans (hb2.mono hz1)
        clear hb2 hbe
        simp only [World.heap_drewN] at hin
        obtain ⟨y, rfl⟩ := Int.eq_ofNat_of_zero_le by0
        go_wp2_with fail
        generalize w1.heap.size = B at *
        go_loopw [12] (fun i wr => ∃ j : Nat, j ≤ y ∧ i = .int .i64 j ∧ InW wr (B + 1) B 8 a1 ((j : Int) % 8) [] ∧ Below w.heap.size w wr) (fun i _ => y - (intOf i).toNat)
        case atStart => exact ⟨0, by omega, rfl, hin, hbe2⟩
        case round =>
          obtain ⟨j, hj, rfl, hi, hb⟩ := hrel
          clear hin hbe2
          have hm0 : 0 ≤ (j : Int) % 8 ∧ (j : Int) % 8 < 8 := by omega
          by_cases hlt : j < y
          · have HM := Lib.hid hm0
            have hst : ((j : Int) % 8 + 1) % 8 = ((j + 1 : Nat) : Int) % 8 := by omega
            have HST := Lib.hid hst
            clear hst
            go_wp2_with fail
            generalize hv : (j : Int) % 8 = v at *
            have HV := Lib.hid hv
            clear hv hm0
            refine (take_next (Or.inl rfl) (by omega) HM.out.1 HM.out.2 _ _ _ hi).mono ?_
            rintro e w3 ⟨v3, rfl, hr3, h3, ho3⟩
            rcases hr3.shape with ⟨_, h0⟩ | ⟨g, cap, cur, rfl, hg, hh, _, _, hcur⟩
            · cases h0
            have hc0 : w3.cell? ⟨g, 0, none⟩ = some (.int .i64 v) := by rw [cell_of hh]; exact hcur 0 (by simp)
            have hb3 := ho3.to_below hb hb.size (by simp; omega)
            clear hr3 hh hcur hi hb ho3
            have hvm : (v != (j : Int) % 8) = false := by rw [HV.out]; simp
            go_wp2_with fail
            go_quiet (fail)
            go_wp2
            go_roundw
            case rel => exact ⟨j + 1, by omega, by go_num, by rw [← HST.out]; exact h3.drewN nq, below_drewN hb3 nq⟩
            case measure => simp [intOf]; omega
          · obtain rfl : j = y := by omega
            have hd0 : 0 ≤ x2 % (8 - a1) := Int.emod_nonneg _ (by omega)
            have hd1 : x2 % (8 - a1) < 8 - a1 := Int.emod_lt_of_pos _ (by omega)
            have hq : 1 ≤ 8 - a1 := by omega
            by_cases hold : (j : Int) < 1 + x2 % (8 - a1)
            · clear hlt hm0
              go_wp2
              go_ret
              exact ⟨rfl, hb⟩
            · have hfar : a1 ≤ farI 8 ((j : Int) % 8) (((j : Int) - (1 + x2 % (8 - a1))) % 8) := by
                rw [farI, if_pos (by simp [ok2B, inB, modB]; omega)]
                omega
              have ht : 0 ≤ (j : Int) - (1 + x2 % (8 - a1)) := by omega
              have hrange : 0 ≤ ((j : Int) - (1 + x2 % (8 - a1))) % 8 ∧ ((j : Int) - (1 + x2 % (8 - a1))) % 8 < 8 := by omega
              have HF := Lib.hid hfar
              have HR := Lib.hid hrange
              clear hfar hlt hm0 hrange
              go_wp2_with fail
              generalize ((j : Int) - (1 + x2 % (8 - a1))) % 8 = ns at *
              refine (take_far _ _ _ _ _ _ _ _ hi (ok1_of (Or.inl rfl) HR.out.1 HR.out.2) (wf_small HR.out.1 (by have := HR.out.2; omega)) (by simp) HF.out).mono ?_
              rintro e w3 ⟨rfl, hb3⟩
              have h3 := hi.below hb3
              go_wp2_with fail
              go_quiet (first | (go_at_call 30; exact held30q h3 _) | (go_at_call 31; exact vr31q h3 _))
              go_wp2
              go_ret
              exact ⟨rfl, below_drewN (hb.trans (hb3.mono hb.size)) _⟩
  · by_cases hk : a1 < 1
    · go_enter Try.func8, Try.ntmps8
      go_wp2_with (go_at_call 23; refine (awake23 _).mono ?_; rintro e w1 ⟨rfl, hb1⟩)
      have hbe : Below w.heap.size w w1 := (below_new w _).trans (hb1.mono (by simp))
      have hbk : w1.heap[w.heap.size]? = some (.cells #[.int .u8 x2, .int .u8 y2] 35) := (hb1.block _ (by simp)).trans (heap_new w _)
      have c0 : w1.cell? ⟨w.heap.size, 0, none⟩ = some (.int .u8 x2) := by rw [cell_of hbk]; rfl
      have c1 : w1.cell? ⟨w.heap.size, 1, none⟩ = some (.int .u8 y2) := by rw [cell_of hbk]; rfl
      clear hb1 hbk
      go_quiet (fail)
      clear c0 c1
      go_wp2
      go_ret
      exact ⟨rfl, below_drewN hbe nq⟩
    · by_cases hk2 : 64 < a1
      · go_enter Try.func8, Try.ntmps8
        go_wp2_with (go_at_call 23; refine (awake23 _).mono ?_; rintro e w1 ⟨rfl, hb1⟩)
        have hbe : Below w.heap.size w w1 := (below_new w _).trans (hb1.mono (by simp))
        have hbk : w1.heap[w.heap.size]? = some (.cells #[.int .u8 x2, .int .u8 y2] 35) := (hb1.block _ (by simp)).trans (heap_new w _)
        have c0 : w1.cell? ⟨w.heap.size, 0, none⟩ = some (.int .u8 x2) := by rw [cell_of hbk]; rfl
        have c1 : w1.cell? ⟨w.heap.size, 1, none⟩ = some (.int .u8 y2) := by rw [cell_of hbk]; rfl
        clear hb1 hbk
        go_quiet (fail)
        clear c0 c1
        go_wp2
        go_ret
        exact ⟨rfl, below_drewN hbe nq⟩
      · go_enter Try.func8, Try.ntmps8
        go_wp2_with (go_at_call 23; refine (awake23 _).mono ?_; rintro e w1 ⟨rfl, hb1⟩)
        have hbe : Below w.heap.size w w1 := (below_new w _).trans (hb1.mono (by simp))
        have hbk : w1.heap[w.heap.size]? = some (.cells #[.int .u8 x2, .int .u8 y2] 35) := (hb1.block _ (by simp)).trans (heap_new w _)
        have c0 : w1.cell? ⟨w.heap.size, 0, none⟩ = some (.int .u8 x2) := by rw [cell_of hbk]; rfl
        have c1 : w1.cell? ⟨w.heap.size, 1, none⟩ = some (.int .u8 y2) := by rw [cell_of hbk]; rfl
        have hz1 := hbe.size
        clear hb1 hbk
        go_quiet (fail)
        clear c0 c1
        go_wp2_with fail
        refine (newIn28 128 a1 _ (by decide) (by omega) (by omega)).mono ?_
        rintro e w2 ⟨rfl, hin, hb2⟩
        have hbe2 := (below_drewN hbe nq).trans (hb2.mono hz1)
        clear hb2 hbe
        simp only [World.heap_drewN] at hin
        obtain ⟨y, rfl⟩ := Int.eq_ofNat_of_zero_le by0
        go_wp2_with fail
        generalize w1.heap.size = B at *
        go_loopw [12] (fun i wr => ∃ j : Nat, j ≤ y ∧ i = .int .i64 j ∧ InW wr (B + 1) B 128 a1 ((j : Int) % 128) [] ∧ Below w.heap.size w wr) (fun i _ => y - (intOf i).toNat)
        case atStart => exact ⟨0, by omega, rfl, hin, hbe2⟩
        case round =>
          obtain ⟨j, hj, rfl, hi, hb⟩ := hrel
          clear hin hbe2
          have hm0 : 0 ≤ (j : Int) % 128 ∧ (j : Int) % 128 < 128 := by omega
          by_cases hlt : j < y
          · have HM := Lib.hid hm0
            have hst : ((j : Int) % 128 + 1) % 128 = ((j + 1 : Nat) : Int) % 128 := by omega
            have HST := Lib.hid hst
            clear hst
            go_wp2_with fail
            generalize hv : (j : Int) % 128 = v at *
            have HV := Lib.hid hv
            clear hv hm0
            refine (take_next (Or.inr rfl) (by omega) HM.out.1 HM.out.2 _ _ _ hi).mono ?_
            rintro e w3 ⟨v3, rfl, hr3, h3, ho3⟩
            rcases hr3.shape with ⟨_, h0⟩ | ⟨g, cap, cur, rfl, hg, hh, _, _, hcur⟩
            · cases h0
            have hc0 : w3.cell? ⟨g, 0, none⟩ = some (.int .i64 v) := by rw [cell_of hh]; exact hcur 0 (by simp)
            have hb3 := ho3.to_below hb hb.size (by simp; omega)
            clear hr3 hh hcur hi hb ho3
            have hvm : (v != (j : Int) % 128) = false := by rw [HV.out]; simp
            go_wp2_with fail
            go_quiet (fail)
            go_wp2
            go_roundw
            case rel => exact ⟨j + 1, by omega, by go_num, by rw [← HST.out]; exact h3.drewN nq, below_drewN hb3 nq⟩
            case measure => simp [intOf]; omega
          · obtain rfl : j = y := by omega
            have hd0 : 0 ≤ x2 % (128 - a1) := Int.emod_nonneg _ (by omega)
            have hd1 : x2 % (128 - a1) < 128 - a1 := Int.emod_lt_of_pos _ (by omega)
            have hq : 1 ≤ 128 - a1 := by omega
            by_cases hold : (j : Int) < 1 + x2 % (128 - a1)
            · clear hlt hm0
              go_wp2
              go_ret
              exact ⟨rfl, hb⟩
            · have hfar : a1 ≤ farI 128 ((j : Int) % 128) (((j : Int) - (1 + x2 % (128 - a1))) % 128) := by
                rw [farI, if_pos (by simp [ok2B, inB, modB]; omega)]
                omega
              have ht : 0 ≤ (j : Int) - (1 + x2 % (128 - a1)) := by omega
              have hrange : 0 ≤ ((j : Int) - (1 + x2 % (128 - a1))) % 128 ∧ ((j : Int) - (1 + x2 % (128 - a1))) % 128 < 128 := by omega
              have HF := Lib.hid hfar
              have HR := Lib.hid hrange
              clear hfar hlt hm0 hrange
              go_wp2_with fail
              generalize ((j : Int) - (1 + x2 % (128 - a1))) % 128 = ns at *
              refine (take_far _ _ _ _ _ _ _ _ hi (ok1_of (Or.inr rfl) HR.out.1 HR.out.2) (wf_small HR.out.1 (by have := HR.out.2; omega)) (by simp) HF.out).mono ?_
              rintro e w3 ⟨rfl, hb3⟩
              have h3 := hi.below hb3
              go_wp2_with fail
              go_quiet (first | (go_at_call 30; exact held30q h3 _) | (go_at_call 31; exact vr31q h3 _))
              go_wp2
              go_ret
              exact ⟨rfl, below_drewN (hb.trans (hb3.mono hb.size)) _⟩

set_option maxRecDepth 100000 in
theorem lifted (os : Os) (started : os.Started) (H : Type) (enc : TypeId × Value → H) :
    ReturnsInHanded {} Try.checked os 8 .any (Rows.seqStaleSpec.pre6 enc Try.prog Try.f8 Rows.seqStaleRow.domain false) (Rows.seqStaleSpec.post enc Try.prog Try.f8 false true false false) := by
  refine returnsInHanded_of_change (C := Try.checked) own started (by kernel_rfl) Try.func8
    (ChangeSpec.witness6 (enc := enc) (C := Try.checked) false ⟨#[], #[.bool false, .int .i64 0, .agg #[.int .u8 0, .int .u8 0]], []⟩ 8 (by kernel_rfl) (by kernel_rfl) (by kernel_rfl) (by kernel_rfl)) ?_
  intro W base args ds gs before hval0 hW hcnd _
  have hval : ∀ (j : Nat) t v, Try.f8.params[j]? = some t → args[j]? = some v → Value.okWide Try.prog W .any base t v := hval0
  have hW' := hW
  obtain ⟨p, q, hA0, hV, rfl, hfz, hnd⟩ := hW
  have hA : DataW.TrodAll enc Try.prog W 0 (fun _ => true) true Try.f8.params.toList args.toList ds p := hA0
  rw [Try.params8] at hA hval
  obtain ⟨v0, vs0, d0, ds0, p0, q0, hargs, rfl, rfl, h0, r0⟩ := trodAll_cons hA
  obtain ⟨v1, vs1, d1, ds1, p1, q1, rfl, rfl, rfl, h1, r1⟩ := trodAll_cons r0
  obtain ⟨v2, vs2, d2, ds2, p2, q2, rfl, rfl, rfl, h2, r2⟩ := trodAll_cons r1
  obtain ⟨rfl, rfl, rfl⟩ := trodAll_nil r2
  obtain rfl : args = #[v0, v1, v2] := by cases args; simp_all
  obtain ⟨rfl, rfl⟩ := trodVars_none hV
  obtain ⟨a0, rfl, rfl, rfl⟩ := open_bool Try.underlying4 (hval 0 4 v0 rfl rfl) h0
  obtain ⟨a1, rfl, rfl, rfl, w1⟩ := open_int Try.underlying3 (hval 1 3 v1 rfl rfl) h1
  have k2 := h2
  have lt2 : ∀ x ∈ p2, x.block < W.heap.size := by obtain ⟨m, hm⟩ := k2; exact DataW.trod_lt m _ _ _ hm
  obtain ⟨x2, y2, rfl, wx2, wy2⟩ := open_arr2 Try.underlying35 Try.underlying5 (by kernel_rfl) (by kernel_rfl) (hval 2 35 v2 rfl rfl) h2
  clear hA0 hval0
  refine (walk a0 a1 x2 y2 W w1 wx2 wy2).mono fun e W' ⟨he, bel⟩ => ?_
  subst he
  exact ⟨_, rfl, _, _, _, [], _, [], hW', trodAll_mk1 (shut_bool Try.underlying4 _), (trodAll_cons_mk (shut_bool Try.underlying4 a0) (trodAll_cons_mk (shut_int Try.underlying3 w1) (trodAll_cons_mk (Below.trod laidOut (by kernel_rfl) (of_decide_eq_true (by kernel_rfl)) k2 bel lt2) trodAll_mk0))), rfl, bel.frame _, fun h => by cases h⟩

theorem over : Rows.seqStaleRow.holds Try.pinned (OpenSpec.ofChange Rows.seqStaleSpec) :=
  OpenClaim.holds_of_wide 8 Try.f8 rfl rfl rfl rfl rfl rfl rfl ⟨rfl, rfl, rfl, rfl, rfl⟩ rfl rfl rfl rfl rfl (by kernel_rfl) Try.func8 (by kernel_rfl)
    (of_decide_eq_true (by kernel_rfl)) (by unfold Func.isWrapper; first | (rw [if_pos (by decide +kernel)]; kernel_rfl) | (rw [if_neg (by decide +kernel)]; exact ⟨rfl, rfl⟩))
    (fun os started H enc _ => lifted os started H enc)

theorem proved : Rows.SeqStaleSaid := over
#print axioms proved
end Go.Proofs.Ytfloemimimkgaaa.seqStale
