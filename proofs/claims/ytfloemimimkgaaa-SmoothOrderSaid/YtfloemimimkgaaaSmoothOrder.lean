/- SmoothOrder returns true for every input, and leaves what it was handed as it was; no condition beside the form's own. -/
import Derived.Test.YtfloemimimkgaaaSm
import Derived.Test.YtfloemimimkgaaaRows
import Derived.WalkKit
import Derived.ProofKit
import Derived.OpenShut
import Derived.ShutString
import Derived.ChangeOld
import Derived.Below
namespace Go.Proofs.Ytfloemimimkgaaa.smoothOrder
open Go.ChangeShapes Go.WideShapes Go.ChangeAt Go.RowKit
open Go.ChangeMaps (open_string shut_string)
set_option linter.unusedVariables false

theorem own : ownKnob Try.prog.godebug = none := by kernel_rfl
theorem laidOut : laidOutB Try.prog = true := by kernel_rfl

theorem tN_mono (s x y : Int) (h : x ≤ y) : tN s x ≤ tN s y ∧ sN s x ≤ sN s y := by
  have h1 : sN s x ≤ sN s y := by unfold sN clp; omega
  refine ⟨?_, h1⟩
  unfold tN
  generalize sN s x = a at *
  generalize sN s y = b at *
  unfold wi; omega
theorem wi_twice (t : Int) (h0 : 4 ≤ t) (h1 : t ≤ 255) : t ≤ wi (2 * t) := by unfold wi; omega
set_option maxHeartbeats 2000000 in
theorem walk (a0 : Int) (a1 : Option Addr) (len1 cap1 : Nat) (z1 : List Int) (x2 y2 : Int) (w : World) (w0 : (Lit.int .i64 a0).wf = true) (hrow : IsRow .u8 w a1 len1 cap1 z1) (wx : (Lit.int .u8 x2).wf = true) (wy : (Lit.int .u8 y2).wf = true) :
    Calls Try.prog 5 #[.int .i64 a0, .slice a1 len1 cap1, .agg #[.int .u8 x2, .int .u8 y2]] w fun e w' => e = .returned (.bool true) ∧ Below w.heap.size w w' := by
  have ⟨bx0, bx1⟩ := bounds_u8 wx
  have ⟨by0, by1⟩ := bounds_u8 wy
  by_cases hl : 300 < len1
  · go_enter Try.func5, Try.ntmps5
    go_wp2_with (go_at_call 12; refine (awake12 _).mono ?_; rintro e w1 ⟨rfl, hb1⟩)
    go_ret
    exact ⟨rfl, (below_new w _).trans (hb1.mono (by simp))⟩
  · have hbd := wi_bd a0
    go_enter Try.func5, Try.ntmps5
    go_wp2_with (go_at_call 12; refine (awake12 _).mono ?_; rintro e w1 ⟨rfl, hb1⟩)
    have hbe : Below w.heap.size w w1 := (below_new w _).trans (hb1.mono (by simp))
    have hbk : w1.heap[w.heap.size]? = some (.cells #[.int .u8 x2, .int .u8 y2] 35) := (hb1.block _ (by simp)).trans (heap_new w _)
    have c0 : w1.cell? ⟨w.heap.size, 0, none⟩ = some (.int .u8 x2) := by rw [cell_of hbk]; rfl
    have c1 : w1.cell? ⟨w.heap.size, 1, none⟩ = some (.int .u8 y2) := by rw [cell_of hbk]; rfl
    have hz1 := hbe.size
    clear hb1 hbk
    go_quiet (fail)
    go_wp2_with (go_at_call 13; refine (new13 _ _).mono ?_; rintro e w' ⟨rfl, rfl⟩)
    have hbe2 := (((below_drewN hbe nq).alloc hz1 (.cells #[.int .i64 (4 * wi a0), .int .i64 (wi a0)] 76)).alloc (by simp; omega) (.cells #[.int .i64 (4 * wi a0), .int .i64 (wi a0)] 76)).alloc (by simp; omega) (.cells #[.int .i64 (4 * wi a0), .int .i64 (wi a0)] 76)
    have m1 := ((Smo.made (w1.drewN nq) (4 * wi a0) (wi a0)).old (.cells #[.int .i64 (4 * wi a0), .int .i64 (wi a0)] 76)).old (.cells #[.int .i64 (4 * wi a0), .int .i64 (wi a0)] 76)
    have m2 := (Smo.made ((w1.drewN nq).alloc (.cells #[.int .i64 (4 * wi a0), .int .i64 (wi a0)] 76)) (4 * wi a0) (wi a0)).old (.cells #[.int .i64 (4 * wi a0), .int .i64 (wi a0)] 76)
    have m3 := Smo.made (((w1.drewN nq).alloc (.cells #[.int .i64 (4 * wi a0), .int .i64 (wi a0)] 76)).alloc (.cells #[.int .i64 (4 * wi a0), .int .i64 (wi a0)] 76)) (4 * wi a0) (wi a0)
    simp only [World.size_alloc, World.heap_drewN] at m1 m2 m3
    generalize (((w1.drewN nq).alloc (.cells #[.int .i64 (4 * wi a0), .int .i64 (wi a0)] 76)).alloc (.cells #[.int .i64 (4 * wi a0), .int .i64 (wi a0)] 76)).alloc (.cells #[.int .i64 (4 * wi a0), .int .i64 (wi a0)] 76) = w2 at *
    generalize w1.heap.size = B at *
    clear c0 c1 hbe
    go_loopw [32] (fun i wr => ∃ (k : Nat) (s t : Int), k ≤ len1 ∧ i = .int .i64 k ∧ 0 ≤ s ∧ s ≤ 2047 ∧ 4 ≤ t ∧ t ≤ 255 ∧ Smo wr B s t ∧ Smo wr (B + 1) s t ∧ Smo wr (B + 1 + 1) s t ∧ Below w.heap.size w wr) (fun i _ => len1 - (intOf i).toNat)
    case atStart => exact ⟨0, 4 * wi a0, wi a0, by omega, rfl, by omega, by omega, by omega, by omega, m1, m2, m3, hbe2⟩
    case round =>
      obtain ⟨k, s, t, hk, rfl, hs0, hs1, ht0, ht1, n1, n2, n3, hb⟩ := hrel
      clear m1 m2 m3 hbe2
      by_cases hlt : k < len1
      · obtain ⟨b, off, rfl, hbl, hc, hwf, hml⟩ := hrow.at k hlt
        have hz := bounds_u8 hwf
        have hc1 := (hb.cell (p := ⟨b, off + k, none⟩) hbl).trans hc
        clear hc hwf
        generalize z1.getD k 0 = z at *
        unfold maxLen at hml
        have hsn := sN_bd s z hs0 hs1
        have htb : 4 ≤ tN s z ∧ tN s z ≤ 255 := wi_bd _
        go_wp2_with fail
        refine (took19 _ s t _ _ n1 hs0 (by omega)).mono ?_
        rintro e w3 ⟨rfl, p1, g1⟩
        have p2 := n2.kept g1 (by omega)
        have p3 := n3.kept g1 (by omega)
        have hb3 := hb.grown g1 hb.size (fun k hk => by cases hk; exact hz1)
        clear n1 n2 n3 g1 hb
        go_wp2_with fail
        refine (took19 _ s t _ _ p2 hs0 (by omega)).mono ?_
        rintro e w4 ⟨rfl, q2, g2⟩
        have q1 := p1.kept g2 (by omega)
        have q3 := p3.kept g2 (by omega)
        have hb4 := hb3.grown g2 hb3.size (fun k hk => by cases hk; omega)
        clear p1 p2 p3 g2 hb3
        go_wp2_with fail
        refine (took19 _ s t _ _ q3 hs0 (by omega)).mono ?_
        rintro e w5 ⟨rfl, r3, g3⟩
        have r1 := q1.kept g3 (by omega)
        have r2 := q2.kept g3 (by omega)
        have hb5 := hb4.grown g3 hb4.size (fun k hk => by cases hk; omega)
        clear q1 q2 q3 g3 hb4
        go_wp2
        go_roundw
        case rel => exact ⟨k + 1, sN s z, tN s z, by omega, by go_num, hsn.1, hsn.2, htb.1, htb.2, r1, r2, r3, hb5⟩
        case measure => simp [intOf]; omega
      · go_wp2_with fail
        refine (t15 _ _ _ _ n3).mono ?_
        rintro e w3 ⟨rfl, rfl⟩
        have hcase : (x2 < y2 ∧ tN s x2 ≤ tN s y2 ∧ sN s x2 ≤ sN s y2) ∨ x2 = y2 ∨ (y2 < x2 ∧ tN s y2 ≤ tN s x2 ∧ sN s y2 ≤ sN s x2) := by
          by_cases q : x2 < y2
          · exact Or.inl ⟨q, tN_mono s x2 y2 (by omega)⟩
          · by_cases q2 : x2 = y2
            · exact Or.inr (Or.inl q2)
            · exact Or.inr (Or.inr ⟨by omega, tN_mono s y2 x2 (by omega)⟩)
        rcases hcase with ⟨q, u1, u2⟩ | rfl | ⟨q, u1, u2⟩
        all_goals
          have u3 := wi_twice t ht0 ht1
          go_wp2_with fail
          refine (took19 _ s t _ _ n1 hs0 (by omega)).mono ?_
          rintro e w3 ⟨rfl, p1, g1⟩
          have p2 := n2.kept g1 (by omega)
          have p3 := n3.kept g1 (by omega)
          have hb3 := hb.grown g1 hb.size (fun k hk => by cases hk; exact hz1)
          clear n1 n2 n3 g1 hb
          go_wp2_with fail
          refine (took19 _ s t _ _ p2 hs0 (by omega)).mono ?_
          rintro e w4 ⟨rfl, q2, g2⟩
          have q1 := p1.kept g2 (by omega)
          have q3 := p3.kept g2 (by omega)
          have hb4 := hb3.grown g2 hb3.size (fun k hk => by cases hk; omega)
          clear p1 p2 p3 g2 hb3
          go_wp2_with fail
          refine (t16 _ _ _ _ q1).mono ?_
          rintro e w5 ⟨rfl, rfl⟩
          go_wp2_with fail
          refine (t16 _ _ _ _ q2).mono ?_
          rintro e w5 ⟨rfl, rfl⟩
          go_wp2_with fail
          refine (none17 _ _ _ _ q3 ht0 ht1).mono ?_
          rintro e w5 ⟨rfl, r3, g3⟩
          have hb5 := hb4.grown g3 hb4.size (fun k hk => by cases hk; omega)
          go_wp2
          go_ret
          exact ⟨rfl, hb5⟩

set_option maxRecDepth 100000 in
theorem lifted (os : Os) (started : os.Started) (H : Type) (enc : TypeId × Value → H) :
    ReturnsInHanded {} Try.checked os 5 .any (Rows.smoothOrderSpec.pre6 enc Try.prog Try.f5 Rows.smoothOrderRow.domain false) (Rows.smoothOrderSpec.post enc Try.prog Try.f5 false true false false) := by
  refine returnsInHanded_of_change (C := Try.checked) own started (by kernel_rfl) Try.func5
    (ChangeSpec.witness6 (enc := enc) (C := Try.checked) false ⟨#[], #[.int .i64 0, .slice none 0 0, .agg #[.int .u8 0, .int .u8 0]], []⟩ 8 (by kernel_rfl) (by kernel_rfl) (by kernel_rfl) (by kernel_rfl)) ?_
  intro W base args ds gs before hval0 hW hcnd _
  have hval : ∀ (j : Nat) t v, Try.f5.params[j]? = some t → args[j]? = some v → Value.okWide Try.prog W .any base t v := hval0
  have hW' := hW
  obtain ⟨p, q, hA0, hV, rfl, hfz, hnd⟩ := hW
  have hA : DataW.TrodAll enc Try.prog W 0 (fun _ => true) true Try.f5.params.toList args.toList ds p := hA0
  rw [Try.params5] at hA hval
  obtain ⟨v0, vs0, d0, ds0, p0, q0, hargs, rfl, rfl, h0, r0⟩ := trodAll_cons hA
  obtain ⟨v1, vs1, d1, ds1, p1, q1, rfl, rfl, rfl, h1, r1⟩ := trodAll_cons r0
  obtain ⟨v2, vs2, d2, ds2, p2, q2, rfl, rfl, rfl, h2, r2⟩ := trodAll_cons r1
  obtain ⟨rfl, rfl, rfl⟩ := trodAll_nil r2
  obtain rfl : args = #[v0, v1, v2] := by cases args; simp_all
  obtain ⟨rfl, rfl⟩ := trodVars_none hV
  obtain ⟨a0, rfl, rfl, rfl, w0⟩ := open_int Try.underlying3 (hval 0 3 v0 rfl rfl) h0
  obtain ⟨a1, len1, cap1, rfl⟩ := okWide_slice Try.underlying34 (hval 1 34 v1 rfl rfl)
  have k1 := h1
  have lt1 : ∀ x ∈ p1, x.block < W.heap.size := by obtain ⟨m, hm⟩ := k1; exact DataW.trod_lt m _ _ _ hm
  obtain ⟨z1, w1⟩ : ∃ zs, IsRow .u8 W a1 len1 cap1 zs := open_row Try.underlying34 Try.underlying5 (by kernel_rfl) h1
  have k2 := h2
  have lt2 : ∀ x ∈ p2, x.block < W.heap.size := by obtain ⟨m, hm⟩ := k2; exact DataW.trod_lt m _ _ _ hm
  obtain ⟨x2, y2, rfl, wx2, wy2⟩ := open_arr2 Try.underlying35 Try.underlying5 (by kernel_rfl) (by kernel_rfl) (hval 2 35 v2 rfl rfl) h2
  clear hA0 hval0
  refine (walk a0 a1 len1 cap1 z1 x2 y2 W w0 w1 wx2 wy2).mono fun e W' ⟨he, bel⟩ => ?_
  subst he
  exact ⟨_, rfl, _, _, _, [], _, [], hW', trodAll_mk1 (shut_bool Try.underlying4 _), (trodAll_cons_mk (shut_int Try.underlying3 w0) (trodAll_cons_mk (Below.trod laidOut (by kernel_rfl) (of_decide_eq_true (by kernel_rfl)) k1 bel lt1) (trodAll_cons_mk (Below.trod laidOut (by kernel_rfl) (of_decide_eq_true (by kernel_rfl)) k2 bel lt2) trodAll_mk0))), rfl, bel.frame _, fun h => by cases h⟩

theorem over : Rows.smoothOrderRow.holds Try.pinned (OpenSpec.ofChange Rows.smoothOrderSpec) :=
  OpenClaim.holds_of_wide 5 Try.f5 rfl rfl rfl rfl rfl rfl rfl ⟨rfl, rfl, rfl, rfl, rfl⟩ rfl rfl rfl rfl rfl (by kernel_rfl) Try.func5 (by kernel_rfl)
    (of_decide_eq_true (by kernel_rfl)) (by unfold Func.isWrapper; first | (rw [if_pos (by decide +kernel)]; kernel_rfl) | (rw [if_neg (by decide +kernel)]; exact ⟨rfl, rfl⟩))
    (fun os started H enc _ => lifted os started H enc)

theorem proved : Rows.SmoothOrderSaid := over
#print axioms proved
end Go.Proofs.Ytfloemimimkgaaa.smoothOrder
