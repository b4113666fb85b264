/- SmoothTakes returns true for every input, and leaves what it was handed as it was; no condition beside the form's own. -/
import Derived.Test.YtfloemimimkgaaaSm
import Derived.Test.YtfloemimimkgaaaRows
import Derived.WalkKit
import Derived.ProofKit
import Derived.OpenShut
import Derived.ShutString
import Derived.ChangeOld
import Derived.Below
namespace Go.Proofs.Ytfloemimimkgaaa.smoothTakes
open Go.ChangeShapes Go.WideShapes Go.ChangeAt Go.RowKit
open Go.ChangeMaps (open_string shut_string)
set_option linter.unusedVariables false

theorem own : ownKnob Try.prog.godebug = none := by kernel_rfl
theorem laidOut : laidOutB Try.prog = true := by kernel_rfl

set_option maxHeartbeats 2000000 in
theorem walk (a0 : Int) (a1 : Option Addr) (len1 cap1 : Nat) (z1 : List Int) (w : World) (w0 : (Lit.int .i64 a0).wf = true) (hrow : IsRow .i64 w a1 len1 cap1 z1) :
    Calls Try.prog 3 #[.int .i64 a0, .slice a1 len1 cap1] w fun e w' => e = .returned (.bool true) ∧ Below w.heap.size w w' := by
  by_cases hl : 400 < len1
  · go_enter Try.func3, Try.ntmps3
    go_wp2_with (go_at_call 12; refine (awake12 _).mono ?_; rintro e w1 ⟨rfl, hb1⟩)
    go_ret
    exact ⟨rfl, hb1⟩
  · have hbd := wi_bd a0
    go_enter Try.func3, Try.ntmps3
    go_wp2_with (first
      | (go_at_call 12; refine (awake12 _).mono ?_; rintro e w1 ⟨rfl, hb1⟩)
      | (go_at_call 13; refine (new13 _ _).mono ?_; rintro e w' ⟨rfl, rfl⟩)
      | (go_at_call 14; refine (new14 _ _).mono ?_; rintro e w2 ⟨rfl, hb2⟩; have hs2 : Smo w2 w1.heap.size (4 * wi a0) (wi a0) := (Smo.made w1 (4 * wi a0) (wi a0)).below hb2 (by simp)))
    have hs3 := hs2.old (.cells #[.int .i64 (4 * wi a0), .int .i64 (wi a0)] 27)
    go_quiet (first | (go_at_call 15; exact t15q hs3 _) | (go_at_call 16; exact t16q hs3 _))
    go_wp2
    have hw2 : W2 (w2.alloc (.cells #[.int .i64 (4 * wi a0), .int .i64 (wi a0)] 27)) w2.heap.size (4 * wi a0) (wi a0) := heap_new w2 _
    have s1 := hb1.size
    have s2 := hb2.size
    simp at s2
    have hbe : Below w.heap.size w ((w2.alloc (.cells #[.int .i64 (4 * wi a0), .int .i64 (wi a0)] 27)).drewN nq) := (((hb1.alloc s1 _).trans (hb2.mono (by simp; omega))).alloc (by omega) _).trans (below_drewN (Below.refl _ _) _)
    have hB1 : w.heap.size ≤ w1.heap.size := hb1.size
    have hB2 : w1.heap.size < w2.heap.size := hs2.lt
    generalize w1.heap.size = B1 at *
    generalize w2.heap.size = B2 at *
    go_loopw [33] (fun i wr => ∃ (k : Nat) (s t : Int), k ≤ len1 ∧ i = .int .i64 k ∧ 0 ≤ s ∧ s ≤ 2047 ∧ 4 ≤ t ∧ t ≤ 255 ∧ Smo wr B1 s t ∧ W2 wr B2 s t ∧ Below w.heap.size w wr) (fun i _ => len1 - (intOf i).toNat)
    case atStart =>
      exact ⟨0, 4 * wi a0, wi a0, by omega, rfl, by omega, by omega, by omega, by omega, hs3, hw2, hbe⟩
    case round =>
      obtain ⟨k, s, t, hk, rfl, hs0, hs1, ht0, ht1, hsm, hw, hb⟩ := hrel
      clear hs2 hs3 hb2 hw2 hbe hb1
      by_cases hlt : k < len1
      · obtain ⟨b, off, rfl, hbl, hc, hwf, hml⟩ := hrow.at k hlt
        have hz := bounds_i64 hwf
        have hc1 := (hb.cell (p := ⟨b, off + k, none⟩) hbl).trans hc
        clear hc hwf
        generalize z1.getD k 0 = z at *
        unfold maxLen at hml
        by_cases hz0 : z < 0
        · go_wp2_with (first
            | (go_at_call 17; refine (none17 _ s t _ (by assumption) ht0 ht1).mono ?_; rintro e w3 ⟨rfl, hs3, hg3⟩; have hw3 := hw.kept hg3 (by omega); have d0 := hw3.d0; have d1 := hw3.d1; have g0 := hw3.g 0; have g1 := hw3.g 1)
            | (go_at_call 18; refine (none18 s t _ ht0 ht1).mono ?_; rintro e w4 ⟨rfl, hb4⟩; have hs4 := hs3.below hb4 (Smo.lt hs3); have hw4 := hw3.below hb4 (W2.lt hw3); have d0 := hw4.d0; have d1 := hw4.d1; have g0 := hw4.g 0; have g1 := hw4.g 1))
          have hws := hw4.set (s' := s) (t' := wi (2 * t))
          have hss := (hs4.set_other B2 0 (.int .i64 s) (by omega)).set_other B2 1 (.int .i64 (wi (2 * t))) (by omega)
          have e0 := hws.d0
          have e1 := hws.d1
          have hwb := wi_bd (2 * t)
          have hbb := below_round hb hg3 hb4 hB1 (by omega : w.heap.size ≤ B2) (.int .i64 s) (.int .i64 (wi (2 * t)))
          go_quiet (first | (go_at_call 15; exact t15q hss _) | (go_at_call 16; exact t16q hss _))
          go_wp2
          go_roundw
          case rel => exact ⟨k + 1, s, wi (2 * t), by omega, by go_num, hs0, hs1, hwb.1, hwb.2, hss.drewN _, hws, below_drewN hbb _⟩
          case measure => simp [intOf]; omega
        · have hsn := sN_bd s z hs0 hs1
          have htb : 4 ≤ tN s z ∧ tN s z ≤ 255 := wi_bd _
          go_wp2_with (first
            | (go_at_call 19; refine (took19 _ s t _ _ (by assumption) hs0 (by omega)).mono ?_; rintro e w3 ⟨rfl, hs3, hg3⟩; have hw3 := hw.kept hg3 (by omega); have d0 := hw3.d0; have d1 := hw3.d1; have g0 := hw3.g 0; have g1 := hw3.g 1)
            | (go_at_call 20; refine (took20 s t _ _ hs0 (by omega)).mono ?_; rintro e w4 ⟨rfl, hb4⟩; have hs4 := hs3.below hb4 (Smo.lt hs3); have hw4 := hw3.below hb4 (W2.lt hw3); have d0 := hw4.d0; have d1 := hw4.d1; have g0 := hw4.g 0; have g1 := hw4.g 1))
          have hws := hw4.set (s' := sN s z) (t' := tN s z)
          have hss := (hs4.set_other B2 0 (.int .i64 (sN s z)) (by omega)).set_other B2 1 (.int .i64 (tN s z)) (by omega)
          have e0 := hws.d0
          have e1 := hws.d1
          have hbb := below_round hb hg3 hb4 hB1 (by omega : w.heap.size ≤ B2) (.int .i64 (sN s z)) (.int .i64 (tN s z))
          go_quiet (first | (go_at_call 15; exact t15q hss _) | (go_at_call 16; exact t16q hss _))
          go_wp2
          go_roundw
          case rel => exact ⟨k + 1, sN s z, tN s z, by omega, by go_num, hsn.1, hsn.2, htb.1, htb.2, hss.drewN _, hws, below_drewN hbb _⟩
          case measure => simp [intOf]; omega
      · go_wp2
        go_ret
        exact ⟨rfl, hb⟩

/-! ### THE ROW's STEP: WRITTEN OUT: LEAVE IT -/
set_option maxRecDepth 100000 in
theorem lifted (os : Os) (started : os.Started) (H : Type) (enc : TypeId × Value → H) :
    ReturnsInHanded {} Try.checked os 3 .any (Rows.smoothTakesSpec.pre6 enc Try.prog Try.f3 Rows.smoothTakesRow.domain false) (Rows.smoothTakesSpec.post enc Try.prog Try.f3 false true false false) := by
  refine returnsInHanded_of_change (C := Try.checked) own started (by kernel_rfl) Try.func3
    (ChangeSpec.witness6 (enc := enc) (C := Try.checked) false ⟨#[], #[.int .i64 0, .slice none 0 0], []⟩ 8 (by kernel_rfl) (by kernel_rfl) (by kernel_rfl) (by kernel_rfl)) ?_
  intro W base args ds gs before hval0 hW hcnd _
  have hval : ∀ (j : Nat) t v, Try.f3.params[j]? = some t → args[j]? = some v → Value.okWide Try.prog W .any base t v := hval0
  have hW' := hW
  obtain ⟨p, q, hA0, hV, rfl, hfz, hnd⟩ := hW
  have hA : DataW.TrodAll enc Try.prog W 0 (fun _ => true) true Try.f3.params.toList args.toList ds p := hA0
  rw [Try.params3] at hA hval
  obtain ⟨v0, vs0, d0, ds0, p0, q0, hargs, rfl, rfl, h0, r0⟩ := trodAll_cons hA
  obtain ⟨v1, vs1, d1, ds1, p1, q1, rfl, rfl, rfl, h1, r1⟩ := trodAll_cons r0
  obtain ⟨rfl, rfl, rfl⟩ := trodAll_nil r1
  obtain rfl : args = #[v0, v1] := by cases args; simp_all
  obtain ⟨rfl, rfl⟩ := trodVars_none hV
  obtain ⟨a0, rfl, rfl, rfl, w0⟩ := open_int Try.underlying3 (hval 0 3 v0 rfl rfl) h0
  obtain ⟨a1, len1, cap1, rfl⟩ := okWide_slice Try.underlying22 (hval 1 22 v1 rfl rfl)
  have k1 := h1
  have lt1 : ∀ x ∈ p1, x.block < W.heap.size := by obtain ⟨m, hm⟩ := k1; exact DataW.trod_lt m _ _ _ hm
  obtain ⟨z1, w1⟩ : ∃ zs, IsRow .i64 W a1 len1 cap1 zs := by
    obtain ⟨fuel, hf⟩ := h1
    rcases open_ints Try.underlying22 Try.underlying3 (by kernel_rfl) hf with ⟨hcs, _⟩ | ⟨x, l, c, zs, hcs, _, hl, hm, hz, _, hcell, hwz⟩
    · simp [Value.cells] at hcs
      obtain ⟨rfl, rfl, rfl⟩ := hcs
      exact ⟨[], .inl ⟨rfl, rfl, rfl, rfl⟩⟩
    · simp [Value.cells] at hcs
      obtain ⟨rfl, rfl, rfl⟩ := hcs
      exact ⟨zs, .inr ⟨_, rfl, hl, hm, by simpa using hz, hcell, hwz⟩⟩
  clear hA0 hval0
  refine (walk a0 a1 len1 cap1 z1 W w0 w1).mono fun e W' ⟨he, bel⟩ => ?_
  subst he
  exact ⟨_, rfl, _, _, _, [], _, [], hW', trodAll_mk1 (shut_bool Try.underlying4 _), (trodAll_cons_mk (shut_int Try.underlying3 w0) (trodAll_cons_mk (Below.trod laidOut (by kernel_rfl) (of_decide_eq_true (by kernel_rfl)) k1 bel lt1) trodAll_mk0)), rfl, bel.frame _, fun h => by cases h⟩

theorem over : Rows.smoothTakesRow.holds Try.pinned (OpenSpec.ofChange Rows.smoothTakesSpec) :=
  OpenClaim.holds_of_wide 3 Try.f3 rfl rfl rfl rfl rfl rfl rfl ⟨rfl, rfl, rfl, rfl, rfl⟩ rfl rfl rfl rfl rfl (by kernel_rfl) Try.func3 (by kernel_rfl)
    (of_decide_eq_true (by kernel_rfl)) (by unfold Func.isWrapper; first | (rw [if_pos (by decide +kernel)]; kernel_rfl) | (rw [if_neg (by decide +kernel)]; exact ⟨rfl, rfl⟩))
    (fun os started H enc _ => lifted os started H enc)

/-- ████ THE STATEMENT ████ -/
theorem proved : Rows.SmoothTakesSaid := over
#print axioms proved
end Go.Proofs.Ytfloemimimkgaaa.smoothTakes
