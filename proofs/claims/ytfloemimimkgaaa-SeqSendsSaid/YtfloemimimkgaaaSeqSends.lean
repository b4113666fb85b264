/- SeqSends returns true for every input, and leaves what it was handed as it was; no condition beside the form's own. -/
import Derived.Test.YtfloemimimkgaaaRo
import Derived.Test.YtfloemimimkgaaaRows
import Derived.WalkKit
import Derived.ProofKit
import Derived.OpenShut
import Derived.ShutString
import Derived.ChangeOld
import Derived.Below
namespace Go.Proofs.Ytfloemimimkgaaa.seqSends
open Go.ChangeShapes Go.WideShapes Go.ChangeAt Go.RowKit
open Go.ChangeMaps (open_string shut_string)
set_option linter.unusedVariables false

theorem own : ownKnob Try.prog.godebug = none := by kernel_rfl
theorem laidOut : laidOutB Try.prog = true := by kernel_rfl

def SelfPost (w : World) (e : Ending) (w' : World) : Prop := e = .returned (.bool true) ∧ ∃ n, w.drewN n = w'
theorem same_self (w : World) (va vb : Value) (xs : List Int) (ha : Reads w va xs) (hb : Reads w vb xs) (hx : xs.length ≤ 1000000) : Calls Try.prog 34 #[va, vb] w (SelfPost w) :=
  (same34 w va vb xs xs ha hb hx hx).mono fun e w' ⟨he, n, hn⟩ => ⟨by rw [he]; simp [eqB], n, hn.symm⟩
set_option maxRecDepth 100000 in
set_option maxHeartbeats 16000000 in
theorem walk (a0 : Int) (a1 : Int) (a2 : Option Addr) (len2 cap2 : Nat) (z2 : List Int) (w : World) (w0 : (Lit.int .i64 a0).wf = true) (w1 : (Lit.int .i64 a1).wf = true) (hrow : IsRow .i64 w a2 len2 cap2 z2) :
    Calls Try.prog 11 #[.int .i64 a0, .int .i64 a1, .slice a2 len2 cap2] w fun e w' => e = .returned (.bool true) ∧ Below w.heap.size w w' := by
  have ⟨bm0, bm1⟩ := bounds_i64 w0
  have ⟨bk0, bk1⟩ := bounds_i64 w1
  by_cases hok : (a0 = 8 ∨ a0 = 128) ∧ 1 ≤ a1 ∧ a1 < a0
  · obtain ⟨hm, hk1, hk2⟩ := hok
    have hmb : modB a0 = true := by simp [modB]; exact hm
    have k32 := mod32 a0
    rw [hmb] at k32
    have hm8 : 8 ≤ a0 := by omega
    have hm9 : a0 ≤ 128 := by omega
    have HM := Lib.hid hm
    have HMB := Lib.hid hmb
    have K32 := Lib.hid k32
    clear hm hmb k32
    by_cases hl : 400 < len2
    · go_enter Try.func11, Try.ntmps11
      go_wp2_with (first
        | (go_at_call 23; refine (awake23 _).mono ?_; rintro e w1 ⟨rfl, hb1⟩)
        | (go_at_call 38; refine (newOut38 a0 a1 _ HMB.out hk1 hk2).mono ?_; rintro e w2 ⟨rfl, rfl⟩)
        | (go_at_call 32; refine (K32.out _).mono ?_; rintro e w3 ⟨rfl, rfl⟩))
      go_ret
      exact ⟨rfl, hb1.alloc hb1.size _⟩
    · go_enter Try.func11, Try.ntmps11
      go_wp2_with (first
        | (go_at_call 23; refine (awake23 _).mono ?_; rintro e w1 ⟨rfl, hb1⟩)
        | (go_at_call 38; refine (newOut38 a0 a1 _ HMB.out hk1 hk2).mono ?_; rintro e w2 ⟨rfl, rfl⟩)
        | (go_at_call 32; refine (K32.out _).mono ?_; rintro e w3 ⟨rfl, rfl⟩))
      have hOut : OutW ((w1.alloc (.cells #[.int .i64 a0, .int .i64 a1, .int .i64 0, .int .i64 0] 81)).alloc (.cells #[.int .i64 a0, .int .i64 a1, .int .i64 0, .int .i64 0] 71)) w1.heap.size a0 a1 0 0 := by
        unfold OutW Four
        have := heap_old (heap_new w1 (.cells #[.int .i64 a0, .int .i64 a1, .int .i64 0, .int .i64 0] 81)) (.cells #[.int .i64 a0, .int .i64 a1, .int .i64 0, .int .i64 0] 71)
        simpa using this
      have hRef : ROut ((w1.alloc (.cells #[.int .i64 a0, .int .i64 a1, .int .i64 0, .int .i64 0] 81)).alloc (.cells #[.int .i64 a0, .int .i64 a1, .int .i64 0, .int .i64 0] 71)) (w1.heap.size + 1) a0 a1 0 0 := by
        unfold ROut Four
        have := heap_new (w1.alloc (.cells #[.int .i64 a0, .int .i64 a1, .int .i64 0, .int .i64 0] 81)) (.cells #[.int .i64 a0, .int .i64 a1, .int .i64 0, .int .i64 0] 71)
        simpa using this
      have s1 := hb1.size
      have hbe := (hb1.alloc s1 (.cells #[.int .i64 a0, .int .i64 a1, .int .i64 0, .int .i64 0] 81)).alloc (by simp; omega) (.cells #[.int .i64 a0, .int .i64 a1, .int .i64 0, .int .i64 0] 71)
      generalize (w1.alloc (.cells #[.int .i64 a0, .int .i64 a1, .int .i64 0, .int .i64 0] 81)).alloc (.cells #[.int .i64 a0, .int .i64 a1, .int .i64 0, .int .i64 0] 71) = wA at *
      generalize w1.heap.size = B at *
      clear hb1
      go_loopw [62] (fun i wr => ∃ (j A O : Nat), j ≤ len2 ∧ i = .int .i64 j ∧ OutW wr B a0 a1 A O ∧ ROut wr (B + 1) a0 a1 A O ∧ Hid (A ≤ O ∧ (O : Int) - A ≤ a1 ∧ O ≤ j) ∧ Below w.heap.size w wr) (fun i _ => len2 - (intOf i).toNat)
      case atStart => exact ⟨0, 0, 0, by omega, rfl, hOut, hRef, ⟨by omega, by omega, by omega⟩, hbe⟩
      case round =>
        clear hOut hRef hbe
        obtain ⟨j, A, O, hj, rfl, hin, href, hid, hb⟩ := hrel
        by_cases hlt : j < len2
        · obtain ⟨b, off, rfl, hbl, hc, hwf, hml⟩ := hrow.at j hlt
          have hc1 := (hb.cell (p := ⟨b, off + j, none⟩) hbl).trans hc
          have hob := bounds_i64 hwf
          clear hc hwf
          generalize z2.getD j 0 = o at *
          unfold maxLen at hml
          have hA : A ≤ O := hid.out.1
          have hO : (O : Int) - A ≤ a1 := hid.out.2.1
          have hO2 : (O : Int) ≤ 50000 := by have := hid.out.2.2; omega
          have hbsz := hb.size
          have hcase : o = 0 ∨ o = 1 ∨ 2 ≤ o ∨ o < 0 := by omega
          rcases hcase with rfl | rfl | ho | ho
          · have K1 := Lib.hid (next39 B a0 a1 A O wr hin HM.out hA hO hk2)
            have K2 := Lib.hid (fun w h => rnext42 (B + 1) a0 a1 A O w h hm8 hm9 hA (by omega))
            obtain ⟨r, hr⟩ : ∃ r, r = nxR a1 a0 A O := ⟨_, rfl⟩
            rw [← hr] at K1 K2
            have hrr : A ≤ r.2.2 ∧ (r.2.2 : Int) - A ≤ a1 ∧ r.2.2 ≤ j + 1 := by
              have := hid.out
              rw [hr]; unfold nxR
              split <;> simp <;> omega
            have HRR := Lib.hid hrr
            clear hr hrr
            obtain ⟨r1, r2, r3⟩ := r
            simp only at HRR
            go_wp2_with fail
            refine K1.out.mono ?_
            rintro e w3 ⟨rfl, hin3, ho3⟩
            have href3 := Four.only href ho3 (by simp)
            have hb3 := ho3.to_below hb hbsz (by simp; omega)
            go_wp2_with fail
            refine (K2.out _ href3).mono ?_
            rintro e w4 ⟨rfl, href', ho4⟩
            have hin' : OutW w4 B a0 a1 A r3 := Four.only hin3 ho4 (by simp)
            have hb' := ho4.to_below hb3 hb3.size (by simp; omega)
            have hrel' := HRR.out
            clear hin href hb hin3 href3 ho3 ho4 hb3 K1 K2 hid HRR hA hO hO2
            simp only at href'
            generalize hA' : A = A' at *
            generalize hO' : r3 = O' at *
            clear hA' hO'
            have hA4 : A' ≤ O' := hrel'.1
            have hO4 : (O' : Int) - A' < a0 := by have := hrel'.2.1; omega
            have hO5 : (O' : Int) ≤ 100000 := by have := hrel'.2.2; omega
            have HREL := Lib.hid hrel'
            have HP := Lib.hid (fun w h => open40 B a0 a1 A' O' w h HM.out hA4 hO4)
            have HR := Lib.hid (fun w h => ropen45 (B + 1) a0 a1 A' O' w h HM.out hA4 hO4 hO5)
            have hLlen : (opn a0 A' (O' - A')).length ≤ 1000000 := by rw [opn_len]; omega
            have hA0 : (0 : Int) ≤ (A' : Int) := by omega
            have hO0 : (0 : Int) ≤ (O' : Int) := by omega
            have hA6 : (A' : Int) ≤ 100000 := by omega
            have wm : ¬ (a0 = 0) := by omega
            have wt1 : (A' : Int).tmod a0 = (A' : Int) % a0 := Int.tmod_eq_emod_of_nonneg hA0
            have wt2 : IntKind.i64.wrap ((A' : Int) % a0) = (A' : Int) % a0 := IntWalk.i64_in _ (by have := Int.emod_lt_of_pos (A' : Int) (by omega : 0 < a0); have := Int.emod_nonneg (A' : Int) (by omega : a0 ≠ 0); omega)
            have wt3 : (O' : Int).tmod a0 = (O' : Int) % a0 := Int.tmod_eq_emod_of_nonneg hO0
            have wt4 : IntKind.i64.wrap ((O' : Int) % a0) = (O' : Int) % a0 := IntWalk.i64_in _ (by have := Int.emod_lt_of_pos (O' : Int) (by omega : 0 < a0); have := Int.emod_nonneg (O' : Int) (by omega : a0 ≠ 0); omega)
            have c2 := href'.c2
            have c3 := href'.c3
            generalize opn a0 A' (O' - A') = L at *
            clear hrel' hA4 hO4
            go_wp2_with fail
            go_region_held3 (fun w' => w'.cell? ⟨B + 1, 2, none⟩ = some (.int .i64 O') ∧ w'.cell? ⟨B + 1, 3, none⟩ = some (.int .i64 A'))
              (first | exact ⟨c2, c3⟩ | exact ⟨href5.c2, href5.c3⟩ | exact ⟨href6.c2, href6.c3⟩ | go_keep)
              ((first
                | (go_at_call 40; refine (HP.out _ (Four.drew hin')).mono ?_; rintro e w5 ⟨v5, rfl, hr5, hb5⟩; have hin5 := (Four.drew hin').below hb5; have href5 := (Four.drew href').below hb5)
                | (go_at_call 45; refine (HR.out _ href5).mono ?_; rintro e w6 ⟨v6, rfl, hr6, hb6⟩; have hin6 := hin5.below hb6; have href6 := href5.below hb6; have hr5' := (hr5.only (Only.of_below hb6) (by simp)).reads)
                | (go_at_call_of 34 v5; refine (same_self _ v5 v6 L hr5' hr6.reads hLlen).mono ?_; rintro e w7 ⟨rfl, n2, rfl⟩)
                | (go_at_call 46; refine (va46 B a0 a1 A' O' _ (hin6.drewN _)).mono ?_; rintro e w7 ⟨rfl, rfl⟩)
                | (go_at_call 47; refine (vs47 B a0 a1 A' O' _ (hin6.drewN _)).mono ?_; rintro e w7 ⟨rfl, rfl⟩)))
            clear c2 c3 wm wt1 wt2 wt3 wt4
            go_wp2
            have hb6' : Below w.heap.size w (w6.drewN n2) := by
              have z4 := hb'.size
              have z5 := hb5.size
              exact below_drewN (((below_drewN hb' 1).trans (hb5.mono z4)).trans (hb6.mono (Nat.le_trans z4 z5))) n2
            go_roundw
            case rel => exact ⟨j + 1, A', O', by omega, by go_num, hin6.drewN n2, href6.drewN n2, HREL.out, hb6'⟩
            case measure => simp [intOf]; omega
          · have K1 := Lib.hid (back43 B a0 a1 A O wr hin)
            have hrr : A ≤ A ∧ (A : Int) - A ≤ a1 ∧ A ≤ j + 1 := by have := hid.out; omega
            have HRR := Lib.hid hrr
            clear hrr
            go_wp2_with fail
            refine K1.out.mono ?_
            rintro e w3 ⟨rfl, hin3, ho3⟩
            have href3 : ROut w3 (B + 1) a0 a1 A O := Four.only href ho3 (by simp)
            have hb3 := ho3.to_below hb hbsz (by simp; omega)
            have q3 := Four.c3 href3
            have q2 := Four.c2 href3
            have f2 := Four.f href3 2
            have hs3 := hb3.size
            go_wp2_with fail
            have ho4 : Only [B + 1] w3 (w3.setCell ⟨B + 1, 2, none⟩ (.int .i64 A)) := (Only.refl _ w3).setCell (by simp) _
            have href' : ROut (w3.setCell ⟨B + 1, 2, none⟩ (.int .i64 A)) (B + 1) a0 a1 A A := Four.set2 href3
            have hin' : OutW (w3.setCell ⟨B + 1, 2, none⟩ (.int .i64 A)) B a0 a1 A A := Four.only hin3 ho4 (by simp)
            have hb' := ho4.to_below hb3 hs3 (by simp; omega)
            have hrel' := HRR.out
            generalize w3.setCell ⟨B + 1, 2, none⟩ (.int .i64 A) = w4 at *
            clear hin href hb hin3 href3 ho3 ho4 hb3 K1 hid HRR hA hO hO2 q3 q2 f2 hs3
            generalize hA' : A = A' at *
            clear hA'
            have hA4 : A' ≤ A' := hrel'.1
            have hO4 : (A' : Int) - A' < a0 := by have := hrel'.2.1; omega
            have hO5 : (A' : Int) ≤ 100000 := by have := hrel'.2.2; omega
            have HREL := Lib.hid hrel'
            have HP := Lib.hid (fun w h => open40 B a0 a1 A' A' w h HM.out hA4 hO4)
            have HR := Lib.hid (fun w h => ropen45 (B + 1) a0 a1 A' A' w h HM.out hA4 hO4 hO5)
            have hLlen : (opn a0 A' (A' - A')).length ≤ 1000000 := by rw [opn_len]; omega
            have hA0 : (0 : Int) ≤ (A' : Int) := by omega
            have hO0 : (0 : Int) ≤ (A' : Int) := by omega
            have hA6 : (A' : Int) ≤ 100000 := by omega
            have wm : ¬ (a0 = 0) := by omega
            have wt1 : (A' : Int).tmod a0 = (A' : Int) % a0 := Int.tmod_eq_emod_of_nonneg hA0
            have wt2 : IntKind.i64.wrap ((A' : Int) % a0) = (A' : Int) % a0 := IntWalk.i64_in _ (by have := Int.emod_lt_of_pos (A' : Int) (by omega : 0 < a0); have := Int.emod_nonneg (A' : Int) (by omega : a0 ≠ 0); omega)
            have wt3 : (A' : Int).tmod a0 = (A' : Int) % a0 := Int.tmod_eq_emod_of_nonneg hO0
            have wt4 : IntKind.i64.wrap ((A' : Int) % a0) = (A' : Int) % a0 := IntWalk.i64_in _ (by have := Int.emod_lt_of_pos (A' : Int) (by omega : 0 < a0); have := Int.emod_nonneg (A' : Int) (by omega : a0 ≠ 0); omega)
            have c2 := href'.c2
            have c3 := href'.c3
            generalize opn a0 A' (A' - A') = L at *
            clear hrel' hA4 hO4
            go_wp2_with fail
            go_region_held3 (fun w' => w'.cell? ⟨B + 1, 2, none⟩ = some (.int .i64 A') ∧ w'.cell? ⟨B + 1, 3, none⟩ = some (.int .i64 A'))
              (first | exact ⟨c2, c3⟩ | exact ⟨href5.c2, href5.c3⟩ | exact ⟨href6.c2, href6.c3⟩ | go_keep)
              ((first
                | (go_at_call 40; refine (HP.out _ (Four.drew hin')).mono ?_; rintro e w5 ⟨v5, rfl, hr5, hb5⟩; have hin5 := (Four.drew hin').below hb5; have href5 := (Four.drew href').below hb5)
                | (go_at_call 45; refine (HR.out _ href5).mono ?_; rintro e w6 ⟨v6, rfl, hr6, hb6⟩; have hin6 := hin5.below hb6; have href6 := href5.below hb6; have hr5' := (hr5.only (Only.of_below hb6) (by simp)).reads)
                | (go_at_call_of 34 v5; refine (same_self _ v5 v6 L hr5' hr6.reads hLlen).mono ?_; rintro e w7 ⟨rfl, n2, rfl⟩)
                | (go_at_call 46; refine (va46 B a0 a1 A' A' _ (hin6.drewN _)).mono ?_; rintro e w7 ⟨rfl, rfl⟩)
                | (go_at_call 47; refine (vs47 B a0 a1 A' A' _ (hin6.drewN _)).mono ?_; rintro e w7 ⟨rfl, rfl⟩)))
            clear c2 c3 wm wt1 wt2 wt3 wt4
            go_wp2
            have hb6' : Below w.heap.size w (w6.drewN n2) := by
              have z4 := hb'.size
              have z5 := hb5.size
              exact below_drewN (((below_drewN hb' 1).trans (hb5.mono z4)).trans (hb6.mono (Nat.le_trans z4 z5))) n2
            go_roundw
            case rel => exact ⟨j + 1, A', A', by omega, by go_num, hin6.drewN n2, href6.drewN n2, HREL.out, hb6'⟩
            case measure => simp [intOf]; omega
          · have K1 := Lib.hid (acks41 B a0 a1 (o - 2) A O wr hin HM.out hA (by omega))
            have K2 := Lib.hid (fun w h => racks44 (B + 1) a0 a1 (o - 2) A O w h HM.out hA (by omega) (by omega))
            obtain ⟨r, hr⟩ : ∃ r, r = akR a0 A O (o - 2) := ⟨_, rfl⟩
            rw [← hr] at K1 K2
            have hrr : r.2.2 ≤ O ∧ (O : Int) - r.2.2 ≤ a1 ∧ O ≤ j + 1 := by
              have := hid.out
              rw [hr]; unfold akR
              split
              · simp; omega
              · rename_i hk
                have hk1 : 0 ≤ (o - 2) ∧ (o - 2) < a0 := by simp [ok1B, inB, modB] at hk; omega
                have hfb := far_back (A := A) HM.out hk1.1 hk1.2
                split
                · simp; omega
                · simp; omega
            have HRR := Lib.hid hrr
            clear hr hrr
            obtain ⟨r1, r2, r3⟩ := r
            simp only at HRR
            go_wp2_with fail
            refine K1.out.mono ?_
            rintro e w3 ⟨rfl, hin3, ho3⟩
            have href3 := Four.only href ho3 (by simp)
            have hb3 := ho3.to_below hb hbsz (by simp; omega)
            go_wp2_with fail
            refine (K2.out _ href3).mono ?_
            rintro e w4 ⟨rfl, href', ho4⟩
            have hin' : OutW w4 B a0 a1 r3 O := Four.only hin3 ho4 (by simp)
            have hb' := ho4.to_below hb3 hb3.size (by simp; omega)
            have hrel' := HRR.out
            clear hin href hb hin3 href3 ho3 ho4 hb3 K1 K2 hid HRR hA hO hO2
            simp only at href'
            generalize hA' : r3 = A' at *
            generalize hO' : O = O' at *
            clear hA' hO'
            have hA4 : A' ≤ O' := hrel'.1
            have hO4 : (O' : Int) - A' < a0 := by have := hrel'.2.1; omega
            have hO5 : (O' : Int) ≤ 100000 := by have := hrel'.2.2; omega
            have HREL := Lib.hid hrel'
            have HP := Lib.hid (fun w h => open40 B a0 a1 A' O' w h HM.out hA4 hO4)
            have HR := Lib.hid (fun w h => ropen45 (B + 1) a0 a1 A' O' w h HM.out hA4 hO4 hO5)
            have hLlen : (opn a0 A' (O' - A')).length ≤ 1000000 := by rw [opn_len]; omega
            have hA0 : (0 : Int) ≤ (A' : Int) := by omega
            have hO0 : (0 : Int) ≤ (O' : Int) := by omega
            have hA6 : (A' : Int) ≤ 100000 := by omega
            have wm : ¬ (a0 = 0) := by omega
            have wt1 : (A' : Int).tmod a0 = (A' : Int) % a0 := Int.tmod_eq_emod_of_nonneg hA0
            have wt2 : IntKind.i64.wrap ((A' : Int) % a0) = (A' : Int) % a0 := IntWalk.i64_in _ (by have := Int.emod_lt_of_pos (A' : Int) (by omega : 0 < a0); have := Int.emod_nonneg (A' : Int) (by omega : a0 ≠ 0); omega)
            have wt3 : (O' : Int).tmod a0 = (O' : Int) % a0 := Int.tmod_eq_emod_of_nonneg hO0
            have wt4 : IntKind.i64.wrap ((O' : Int) % a0) = (O' : Int) % a0 := IntWalk.i64_in _ (by have := Int.emod_lt_of_pos (O' : Int) (by omega : 0 < a0); have := Int.emod_nonneg (O' : Int) (by omega : a0 ≠ 0); omega)
            have c2 := href'.c2
            have c3 := href'.c3
            generalize opn a0 A' (O' - A') = L at *
            clear hrel' hA4 hO4
            go_wp2_with fail
            go_region_held3 (fun w' => w'.cell? ⟨B + 1, 2, none⟩ = some (.int .i64 O') ∧ w'.cell? ⟨B + 1, 3, none⟩ = some (.int .i64 A'))
              (first | exact ⟨c2, c3⟩ | exact ⟨href5.c2, href5.c3⟩ | exact ⟨href6.c2, href6.c3⟩ | go_keep)
              ((first
                | (go_at_call 40; refine (HP.out _ (Four.drew hin')).mono ?_; rintro e w5 ⟨v5, rfl, hr5, hb5⟩; have hin5 := (Four.drew hin').below hb5; have href5 := (Four.drew href').below hb5)
                | (go_at_call 45; refine (HR.out _ href5).mono ?_; rintro e w6 ⟨v6, rfl, hr6, hb6⟩; have hin6 := hin5.below hb6; have href6 := href5.below hb6; have hr5' := (hr5.only (Only.of_below hb6) (by simp)).reads)
                | (go_at_call_of 34 v5; refine (same_self _ v5 v6 L hr5' hr6.reads hLlen).mono ?_; rintro e w7 ⟨rfl, n2, rfl⟩)
                | (go_at_call 46; refine (va46 B a0 a1 A' O' _ (hin6.drewN _)).mono ?_; rintro e w7 ⟨rfl, rfl⟩)
                | (go_at_call 47; refine (vs47 B a0 a1 A' O' _ (hin6.drewN _)).mono ?_; rintro e w7 ⟨rfl, rfl⟩)))
            clear c2 c3 wm wt1 wt2 wt3 wt4
            go_wp2
            have hb6' : Below w.heap.size w (w6.drewN n2) := by
              have z4 := hb'.size
              have z5 := hb5.size
              exact below_drewN (((below_drewN hb' 1).trans (hb5.mono z4)).trans (hb6.mono (Nat.le_trans z4 z5))) n2
            go_roundw
            case rel => exact ⟨j + 1, A', O', by omega, by go_num, hin6.drewN n2, href6.drewN n2, HREL.out, hb6'⟩
            case measure => simp [intOf]; omega
          · have K1 := Lib.hid (acks41 B a0 a1 (o) A O wr hin HM.out hA (by omega))
            have K2 := Lib.hid (fun w h => racks44 (B + 1) a0 a1 (o) A O w h HM.out hA (by omega) (by omega))
            obtain ⟨r, hr⟩ : ∃ r, r = akR a0 A O (o) := ⟨_, rfl⟩
            rw [← hr] at K1 K2
            have hrr : r.2.2 ≤ O ∧ (O : Int) - r.2.2 ≤ a1 ∧ O ≤ j + 1 := by
              have := hid.out
              rw [hr]; unfold akR
              split
              · simp; omega
              · rename_i hk
                have hk1 : 0 ≤ (o) ∧ (o) < a0 := by simp [ok1B, inB, modB] at hk; omega
                have hfb := far_back (A := A) HM.out hk1.1 hk1.2
                split
                · simp; omega
                · simp; omega
            have HRR := Lib.hid hrr
            clear hr hrr
            obtain ⟨r1, r2, r3⟩ := r
            simp only at HRR
            go_wp2_with fail
            refine K1.out.mono ?_
            rintro e w3 ⟨rfl, hin3, ho3⟩
            have href3 := Four.only href ho3 (by simp)
            have hb3 := ho3.to_below hb hbsz (by simp; omega)
            go_wp2_with fail
            refine (K2.out _ href3).mono ?_
            rintro e w4 ⟨rfl, href', ho4⟩
            have hin' : OutW w4 B a0 a1 r3 O := Four.only hin3 ho4 (by simp)
            have hb' := ho4.to_below hb3 hb3.size (by simp; omega)
            have hrel' := HRR.out
            clear hin href hb hin3 href3 ho3 ho4 hb3 K1 K2 hid HRR hA hO hO2
            simp only at href'
            generalize hA' : r3 = A' at *
            generalize hO' : O = O' at *
            clear hA' hO'
            have hA4 : A' ≤ O' := hrel'.1
            have hO4 : (O' : Int) - A' < a0 := by have := hrel'.2.1; omega
            have hO5 : (O' : Int) ≤ 100000 := by have := hrel'.2.2; omega
            have HREL := Lib.hid hrel'
            have HP := Lib.hid (fun w h => open40 B a0 a1 A' O' w h HM.out hA4 hO4)
            have HR := Lib.hid (fun w h => ropen45 (B + 1) a0 a1 A' O' w h HM.out hA4 hO4 hO5)
            have hLlen : (opn a0 A' (O' - A')).length ≤ 1000000 := by rw [opn_len]; omega
            have hA0 : (0 : Int) ≤ (A' : Int) := by omega
            have hO0 : (0 : Int) ≤ (O' : Int) := by omega
            have hA6 : (A' : Int) ≤ 100000 := by omega
            have wm : ¬ (a0 = 0) := by omega
            have wt1 : (A' : Int).tmod a0 = (A' : Int) % a0 := Int.tmod_eq_emod_of_nonneg hA0
            have wt2 : IntKind.i64.wrap ((A' : Int) % a0) = (A' : Int) % a0 := IntWalk.i64_in _ (by have := Int.emod_lt_of_pos (A' : Int) (by omega : 0 < a0); have := Int.emod_nonneg (A' : Int) (by omega : a0 ≠ 0); omega)
            have wt3 : (O' : Int).tmod a0 = (O' : Int) % a0 := Int.tmod_eq_emod_of_nonneg hO0
            have wt4 : IntKind.i64.wrap ((O' : Int) % a0) = (O' : Int) % a0 := IntWalk.i64_in _ (by have := Int.emod_lt_of_pos (O' : Int) (by omega : 0 < a0); have := Int.emod_nonneg (O' : Int) (by omega : a0 ≠ 0); omega)
            have c2 := href'.c2
            have c3 := href'.c3
            generalize opn a0 A' (O' - A') = L at *
            clear hrel' hA4 hO4
            go_wp2_with fail
            go_region_held3 (fun w' => w'.cell? ⟨B + 1, 2, none⟩ = some (.int .i64 O') ∧ w'.cell? ⟨B + 1, 3, none⟩ = some (.int .i64 A'))
              (first | exact ⟨c2, c3⟩ | exact ⟨href5.c2, href5.c3⟩ | exact ⟨href6.c2, href6.c3⟩ | go_keep)
              ((first
                | (go_at_call 40; refine (HP.out _ (Four.drew hin')).mono ?_; rintro e w5 ⟨v5, rfl, hr5, hb5⟩; have hin5 := (Four.drew hin').below hb5; have href5 := (Four.drew href').below hb5)
                | (go_at_call 45; refine (HR.out _ href5).mono ?_; rintro e w6 ⟨v6, rfl, hr6, hb6⟩; have hin6 := hin5.below hb6; have href6 := href5.below hb6; have hr5' := (hr5.only (Only.of_below hb6) (by simp)).reads)
                | (go_at_call_of 34 v5; refine (same_self _ v5 v6 L hr5' hr6.reads hLlen).mono ?_; rintro e w7 ⟨rfl, n2, rfl⟩)
                | (go_at_call 46; refine (va46 B a0 a1 A' O' _ (hin6.drewN _)).mono ?_; rintro e w7 ⟨rfl, rfl⟩)
                | (go_at_call 47; refine (vs47 B a0 a1 A' O' _ (hin6.drewN _)).mono ?_; rintro e w7 ⟨rfl, rfl⟩)))
            clear c2 c3 wm wt1 wt2 wt3 wt4
            go_wp2
            have hb6' : Below w.heap.size w (w6.drewN n2) := by
              have z4 := hb'.size
              have z5 := hb5.size
              exact below_drewN (((below_drewN hb' 1).trans (hb5.mono z4)).trans (hb6.mono (Nat.le_trans z4 z5))) n2
            go_roundw
            case rel => exact ⟨j + 1, A', O', by omega, by go_num, hin6.drewN n2, href6.drewN n2, HREL.out, hb6'⟩
            case measure => simp [intOf]; omega
        · go_wp2
          go_ret
          exact ⟨rfl, hb⟩
  · have k28 := newOut38_no a0 a1
    have K28 := Lib.hid (fun w => k28 w hok)
    have K32 := Lib.hid (mod32 a0)
    clear k28
    by_cases hmb : modB a0 = true
    · have hm := modB_or a0 hmb
      have hm8 : 8 ≤ a0 := by omega
      have hm9 : a0 ≤ 128 := by omega
      rw [hmb] at K32
      by_cases h1 : a1 < 1
      · clear hok hmb hm
        go_enter Try.func11, Try.ntmps11
        go_wp2_with (first
          | (go_at_call 23; refine (awake23 _).mono ?_; rintro e w1 ⟨rfl, hb1⟩)
          | (go_at_call 38; refine (K28.out _).mono ?_; rintro e w2 ⟨rfl, rfl⟩)
          | (go_at_call 32; refine (K32.out _).mono ?_; rintro e w3 ⟨rfl, rfl⟩))
        go_ret
        exact ⟨rfl, hb1⟩
      · have h2 : a0 ≤ a1 := by omega
        clear hok hmb hm
        go_enter Try.func11, Try.ntmps11
        go_wp2_with (first
          | (go_at_call 23; refine (awake23 _).mono ?_; rintro e w1 ⟨rfl, hb1⟩)
          | (go_at_call 38; refine (K28.out _).mono ?_; rintro e w2 ⟨rfl, rfl⟩)
          | (go_at_call 32; refine (K32.out _).mono ?_; rintro e w3 ⟨rfl, rfl⟩))
        go_ret
        exact ⟨rfl, hb1⟩
    · have hmf : modB a0 = false := by simpa using hmb
      rw [hmf] at K32
      clear hok hmb hmf
      go_enter Try.func11, Try.ntmps11
      go_wp2_with (first
        | (go_at_call 23; refine (awake23 _).mono ?_; rintro e w1 ⟨rfl, hb1⟩)
        | (go_at_call 38; refine (K28.out _).mono ?_; rintro e w2 ⟨rfl, rfl⟩)
        | (go_at_call 32; refine (K32.out _).mono ?_; rintro e w3 ⟨rfl, rfl⟩))
      go_ret
      exact ⟨rfl, hb1⟩

set_option maxRecDepth 100000 in
theorem lifted (os : Os) (started : os.Started) (H : Type) (enc : TypeId × Value → H) :
    ReturnsInHanded {} Try.checked os 11 .any (Rows.seqSendsSpec.pre6 enc Try.prog Try.f11 Rows.seqSendsRow.domain false) (Rows.seqSendsSpec.post enc Try.prog Try.f11 false true false false) := by
  refine returnsInHanded_of_change (C := Try.checked) own started (by kernel_rfl) Try.func11
    (ChangeSpec.witness6 (enc := enc) (C := Try.checked) false ⟨#[], #[.int .i64 0, .int .i64 0, .slice none 0 0], []⟩ 8 (by kernel_rfl) (by kernel_rfl) (by kernel_rfl) (by kernel_rfl)) ?_
  intro W base args ds gs before hval0 hW hcnd _
  have hval : ∀ (j : Nat) t v, Try.f11.params[j]? = some t → args[j]? = some v → Value.okWide Try.prog W .any base t v := hval0
  have hW' := hW
  obtain ⟨p, q, hA0, hV, rfl, hfz, hnd⟩ := hW
  have hA : DataW.TrodAll enc Try.prog W 0 (fun _ => true) true Try.f11.params.toList args.toList ds p := hA0
  rw [Try.params11] at hA hval
  obtain ⟨v0, vs0, d0, ds0, p0, q0, hargs, rfl, rfl, h0, r0⟩ := trodAll_cons hA
  obtain ⟨v1, vs1, d1, ds1, p1, q1, rfl, rfl, rfl, h1, r1⟩ := trodAll_cons r0
  obtain ⟨v2, vs2, d2, ds2, p2, q2, rfl, rfl, rfl, h2, r2⟩ := trodAll_cons r1
  obtain ⟨rfl, rfl, rfl⟩ := trodAll_nil r2
  obtain rfl : args = #[v0, v1, v2] := by cases args; simp_all
  obtain ⟨rfl, rfl⟩ := trodVars_none hV
  obtain ⟨a0, rfl, rfl, rfl, w0⟩ := open_int Try.underlying3 (hval 0 3 v0 rfl rfl) h0
  obtain ⟨a1, rfl, rfl, rfl, w1⟩ := open_int Try.underlying3 (hval 1 3 v1 rfl rfl) h1
  obtain ⟨a2, len2, cap2, rfl⟩ := okWide_slice Try.underlying22 (hval 2 22 v2 rfl rfl)
  have k2 := h2
  have lt2 : ∀ x ∈ p2, x.block < W.heap.size := by obtain ⟨m, hm⟩ := k2; exact DataW.trod_lt m _ _ _ hm
  obtain ⟨z2, w2⟩ : ∃ zs, IsRow .i64 W a2 len2 cap2 zs := open_row Try.underlying22 Try.underlying3 (by kernel_rfl) h2
  clear hA0 hval0
  refine (walk a0 a1 a2 len2 cap2 z2 W w0 w1 w2).mono fun e W' ⟨he, bel⟩ => ?_
  subst he
  exact ⟨_, rfl, _, _, _, [], _, [], hW', trodAll_mk1 (shut_bool Try.underlying4 _), (trodAll_cons_mk (shut_int Try.underlying3 w0) (trodAll_cons_mk (shut_int Try.underlying3 w1) (trodAll_cons_mk (Below.trod laidOut (by kernel_rfl) (of_decide_eq_true (by kernel_rfl)) k2 bel lt2) trodAll_mk0))), rfl, bel.frame _, fun h => by cases h⟩

theorem over : Rows.seqSendsRow.holds Try.pinned (OpenSpec.ofChange Rows.seqSendsSpec) :=
  OpenClaim.holds_of_wide 11 Try.f11 rfl rfl rfl rfl rfl rfl rfl ⟨rfl, rfl, rfl, rfl, rfl⟩ rfl rfl rfl rfl rfl (by kernel_rfl) Try.func11 (by kernel_rfl)
    (of_decide_eq_true (by kernel_rfl)) (by unfold Func.isWrapper; first | (rw [if_pos (by decide +kernel)]; kernel_rfl) | (rw [if_neg (by decide +kernel)]; exact ⟨rfl, rfl⟩))
    (fun os started H enc _ => lifted os started H enc)

theorem proved : Rows.SeqSendsSaid := over
#print axioms proved
end Go.Proofs.Ytfloemimimkgaaa.seqSends
