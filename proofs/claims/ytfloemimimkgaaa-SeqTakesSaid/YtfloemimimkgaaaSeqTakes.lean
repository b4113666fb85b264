/- SeqTakes returns true for every input, and leaves what it was handed as it was; no condition beside the form's own. -/
import Derived.Test.YtfloemimimkgaaaTt
import Derived.Test.YtfloemimimkgaaaRows
import Derived.WalkKit
import Derived.ProofKit
import Derived.OpenShut
import Derived.ShutString
import Derived.ChangeOld
import Derived.Below
namespace Go.Proofs.Ytfloemimimkgaaa.seqTakes
open Go.ChangeShapes Go.WideShapes Go.ChangeAt Go.RowKit
open Go.ChangeMaps (open_string shut_string)
set_option linter.unusedVariables false

theorem own : ownKnob Try.prog.godebug = none := by kernel_rfl
theorem laidOut : laidOutB Try.prog = true := by kernel_rfl

def xs0 (m k : Int) : Array Value := #[.int .i64 m, .int .i64 k, .int .i64 0] ++ Array.replicate 128 (.bool false)
theorem built0 (m k : Int) : Try.prog.built 53 [(0, .int .i64 m), (1, .int .i64 k)] = some (xs0 m k) := by kernel_rfl
theorem build0 (m k : Int) (w : World) : (Instr.build 53 #[(0, .int .i64 m), (1, .int .i64 k)]).run Try.prog w = .ok (.agg (xs0 m k)) w := run_build w 53 _ _ (built0 m k)
theorem box0 (m k : Int) (w : World) : (Instr.box 53 (.agg (xs0 m k))).run Try.prog w = .ok (.pointer (some ⟨w.heap.size, 0, none⟩)) (w.alloc (.cells (xs0 m k) 53)) := by kernel_rfl
theorem wpList_build0 {ops : Array Oper} {rest : List Oper} {o : Oper} {a : Act} {Q : Exit → Act → World → Prop} (w : World) (hg : o.guard = none) (x y : Operand) (hop : o.op = Op.build 53 #[(0, x), (1, y)]) (m k : Int)
    (hx : a.eval x = .int .i64 m) (hy : a.eval y = .int .i64 k) (hK : wpList Try.prog ops Q rest (a.put o.dst (.agg (xs0 m k))) w) : wpList Try.prog ops Q (o :: rest) a w := by
  refine wpList_plain hg fun K' hK' => ?_
  unfold Oper.wp execOp
  simp only [hop, List.map_toArray, List.map_cons, List.map_nil, hx, hy, Sem.run_bind, build0, Result.andThen_ok]
  exact hK' _ _ hK
theorem wpList_box0 {ops : Array Oper} {rest : List Oper} {o : Oper} {a : Act} {Q : Exit → Act → World → Prop} (w : World) (hg : o.guard = none) (x : Operand) (hop : o.op = Op.box 53 x) (m k : Int)
    (hx : a.eval x = .agg (xs0 m k)) (hK : wpList Try.prog ops Q rest (a.put o.dst (.pointer (some ⟨w.heap.size, 0, none⟩))) (w.alloc (.cells (xs0 m k) 53))) : wpList Try.prog ops Q (o :: rest) a w := by
  refine wpList_plain hg fun K' hK' => ?_
  unfold Oper.wp execOp
  simp only [hop, hx, Sem.run_bind, box0, Result.andThen_ok]
  exact hK' _ _ hK
theorem RefIn.made (m k : Int) (w : World) : RefIn (w.alloc (.cells (xs0 m k) 53)) w.heap.size m k 0 (fun _ => false) := by
  refine ⟨xs0 m k, heap_new w _, ?_, ?_, ?_, ?_, fun i hi => ?_⟩
  · unfold xs0; rw [Array.size_append, Array.size_replicate]; rfl
  · unfold xs0; rw [Array.getElem?_append_left (by show 0 < 3; omega)]; rfl
  · unfold xs0; rw [Array.getElem?_append_left (by show 1 < 3; omega)]; rfl
  · unfold xs0; rw [Array.getElem?_append_left (by show 2 < 3; omega)]; rfl
  · unfold xs0
    rw [Array.getElem?_append_right (by show 3 ≤ 3 + i; omega)]
    rw [Array.getElem?_replicate, if_pos (by show 3 + i - 3 < 128; omega)]
theorem RelS.made (m k : Int) (hk : 1 ≤ k) : RelS m k 0 (fun _ => false) [] := by
  refine ⟨fun i _ => by simp, fun _ _ => rfl, ?_⟩
  have : ∀ n, cnt (fun _ => false) n = 0 := by
    intro n
    induction n with
    | zero => rfl
    | succ n ih => simp [cnt, ih]
  simp [this]
def SelfPost (w : World) (e : Ending) (w' : World) : Prop := e = .returned (.bool true) ∧ ∃ n, w.drewN n = w'
theorem same_self (w : World) (va vb : Value) (xs : List Int) (ha : Reads w va xs) (hb : Reads w vb xs) (hx : xs.length ≤ 1000000) : Calls Try.prog 34 #[va, vb] w (SelfPost w) :=
  (same34 w va vb xs xs ha hb hx hx).mono fun e w' ⟨he, n, hn⟩ => ⟨by rw [he]; simp [eqB], n, hn.symm⟩
theorem held_is {w : World} {b bm : Nat} {m k vr : Int} {S : List Int} (h : InW w b bm m k vr S) (q : Nat) (hq : S.length = q) : Calls Try.prog 30 #[.pointer (some ⟨b, 0, none⟩)] w fun e w' => e = .returned (.int .i64 q) ∧ w = w' := hq ▸ held30 b bm m k vr S w h
theorem rheld_is {w : World} {b : Nat} {m k vr : Int} {f : Nat → Bool} (h : RefIn w b m k vr f) (q : Nat) (hq : cnt f 128 = q) : Calls Try.prog 35 #[.pointer (some ⟨b, 0, none⟩)] w fun e w' => e = .returned (.int .i64 q) ∧ w = w' := hq ▸ rheld35 b m k vr f w h
theorem InW.drewN1 {w : World} {b bm : Nat} {m k vr : Int} {S : List Int} (h : InW w b bm m k vr S) : InW w.drew b bm m k vr S := ⟨h.blk, h.set⟩
set_option maxRecDepth 100000 in
set_option maxHeartbeats 8000000 in
theorem walk (a0 : Int) (a1 : Int) (a2 : Option Addr) (len2 cap2 : Nat) (z2 : List Int) (w : World) (w0 : (Lit.int .i64 a0).wf = true) (w1 : (Lit.int .i64 a1).wf = true) (hrow : IsRow .i64 w a2 len2 cap2 z2) :
    Calls Try.prog 9 #[.int .i64 a0, .int .i64 a1, .slice a2 len2 cap2] w fun e w' => e = .returned (.bool true) ∧ Below w.heap.size w w' := by
  have ⟨bm0, bm1⟩ := bounds_i64 w0
  have ⟨bk0, bk1⟩ := bounds_i64 w1
  by_cases hok : (a0 = 8 ∨ a0 = 128) ∧ 1 ≤ a1 ∧ a1 ≤ a0 / 2
  · obtain ⟨hm, hk1, hk2⟩ := hok
    have hmb : modB a0 = true := by simp [modB]; exact hm
    have k32 := mod32 a0
    rw [hmb] at k32
    have hm8 : 8 ≤ a0 := by omega
    have hm9 : a0 ≤ 128 := by omega
    have HM := Lib.hid hm
    have HMB := Lib.hid hmb
    have K32 := Lib.hid k32
    clear hm hmb k32
    by_cases hl : 400 < len2
    · go_enter Try.func9, Try.ntmps9
      go_wp2_with (first
        | (go_at_call 23; refine (awake23 _).mono ?_; rintro e w1 ⟨rfl, hb1⟩)
        | (go_at_call 28; refine (newIn28 a0 a1 _ HMB.out hk1 hk2).mono ?_; rintro e w2 ⟨rfl, hin, hb2⟩)
        | (go_at_call 32; refine (K32.out _).mono ?_; rintro e w3 ⟨rfl, rfl⟩))
      go_ret
      exact ⟨rfl, hb1.trans (hb2.mono hb1.size)⟩
    · go_enter Try.func9, Try.ntmps9
      go_wp2_with (first
        | (go_at_call 23; refine (awake23 _).mono ?_; rintro e w1 ⟨rfl, hb1⟩)
        | (go_at_call 28; refine (newIn28 a0 a1 _ HMB.out hk1 hk2).mono ?_; rintro e w2 ⟨rfl, hin, hb2⟩)
        | (go_at_call 32; refine (K32.out _).mono ?_; rintro e w3 ⟨rfl, rfl⟩)
        | (refine wpList_build0 _ rfl _ _ rfl a0 a1 rfl rfl ?_)
        | (refine wpList_box0 _ rfl _ rfl a0 a1 rfl ?_))
      have hRef := RefIn.made a0 a1 w2
      have hRel := RelS.made a0 a1 hk1
      have hIn := hin.only ((Only.refl [] w2).alloc (.cells (xs0 a0 a1) 53)) (by simp) (by simp)
      have s1 := hb1.size
      have hne := hin.ne
      have hlt2 := hin.lt
      have hbe : Below w.heap.size w (w2.alloc (.cells (xs0 a0 a1) 53)) := (hb1.trans (hb2.mono s1)).alloc (Nat.le_trans s1 hb2.size) _
      generalize hC : w2.heap.size = C at *
      generalize w2.alloc (.cells (xs0 a0 a1) 53) = wA at *
      generalize hBB : w1.heap.size = B at *
      have hBC : B + 1 < C := hlt2.1
      clear hin hb2 hb1 hC hBB hne hlt2
      have HRel := Lib.hid (show RelS a0 a1 ((0 : Nat) : Int) (fun _ => false) [] from hRel)
      clear hRel
      go_loopw [58] (fun i wr => ∃ (j V : Nat) (f : Nat → Bool) (S : List Int), j ≤ len2 ∧ i = .int .i64 j ∧ InW wr (B + 1) B a0 a1 ((V : Int) % a0) S ∧ RefIn wr C a0 a1 V f ∧ Hid (RelS a0 a1 V f S ∧ S.Nodup ∧ f 0 = false ∧ V ≤ 129 * j) ∧ Below w.heap.size w wr) (fun i _ => len2 - (intOf i).toNat)
      case atStart => exact ⟨0, 0, _, [], by omega, rfl, by simpa using hIn, hRef, ⟨HRel.out, List.nodup_nil, rfl, by omega⟩, hbe⟩
      case round =>
        clear hRef hIn hbe HRel
        obtain ⟨j, V, f, S, hj, rfl, hin, href, hid, hb⟩ := hrel
        by_cases hlt : j < len2
        · obtain ⟨b, off, rfl, hbl, hc, hwf, hml⟩ := hrow.at j hlt
          have hc1 := (hb.cell (p := ⟨b, off + j, none⟩) hbl).trans hc
          clear hc
          generalize z2.getD j 0 = ns at *
          unfold maxLen at hml
          have hV : (V : Int) ≤ 90000 := by have := hid.out.2.2.2; omega
          have hSl : S.length ≤ 128 := by rw [hid.out.1.len]; exact cnt_le f 128
          have hv0 : 0 ≤ (V : Int) % a0 := Int.emod_nonneg _ (by omega)
          have hv1 : (V : Int) % a0 < a0 := Int.emod_lt_of_pos _ (by omega)
          have K29 := Lib.hid (take29 (B + 1) B a0 a1 ((V : Int) % a0) ns S wr hin hwf HM.out hv0 hv1 (by omega))
          have hbsz := hb.size
          go_wp2_with fail
          refine K29.out.mono ?_
          rintro e w3 ⟨v3, rfl, hr3, hin3, ho3⟩
          have href3 := href.only ho3 (by simp; omega)
          have hb3 := ho3.to_below hb hbsz (by simp; omega)
          have ho3s := ho3.size
          have K33 := Lib.hid (rtake33 C a0 a1 V ns f S w3 href3 HM.out hk1 hk2 (by omega) hV hid.out.1 hid.out.2.1 hid.out.2.2.1)
          have HTL := Lib.hid (tk_len a0 a1 ((V : Int) % a0) S ns)
          go_wp2_with fail
          refine K33.out.mono ?_
          rintro e w4 ⟨v4, V4, f4, rfl, hr4, href4, ho4, hrel4, hnd4, hvv, hVV, hf4⟩
          generalize tk a0 a1 ((V : Int) % a0) S ns = r at *
          obtain ⟨r1, en, rv, rS⟩ := r
          simp only at *
          have hin4 := hin3.only ho4 (by simp; omega) (by simp; omega)
          have hr3' := hr3.only ho4 (by simp; have := href.lt; omega)
          have hb4 := ho4.to_below hb3 hb3.size (by simp; omega)
          have HREL := Lib.hid (And.intro hrel4 (And.intro hnd4 (And.intro hVV (And.intro hf4 HTL.out))))
          clear K29 K33 hin href hb hb3 hin3 href3 ho3 ho4 hr3
          subst hvv
          have hV4a : 0 ≤ V4 := by omega
          have hV4b : V4 ≤ 100000 := by have := HTL.out; omega
          have hlen1 : r1.length ≤ 1000000 := by have := HTL.out; omega
          have HVV := Lib.hid (And.intro hVV (And.intro hSl hid.out.2.2.2))
          clear hVV hid hSl
          have hfew := hrel4.few hk1 (by omega) hf4
          obtain ⟨q, hq⟩ : ∃ q, q = rS.length := ⟨_, rfl⟩
          have hq1 : (q : Int) < a1 := by omega
          have HQ := Lib.hid (And.intro hq.symm (hrel4.len.symm.trans hq.symm))
          have HSAME := Lib.hid (same_self w4.drew v3 v4 r1 hr3'.reads hr4.reads hlen1)
          have HM36 := Lib.hid (fun w h => pmiss36 (B + 1) B a0 a1 V4 rS f4 w h HM.out hrel4 (by omega) hV4a)
          have HM37 := Lib.hid (fun w h => rmiss37 C a0 a1 V4 f4 w h hm8 hm9 hV4a hV4b)
          have hLlen : (missF a0 V4 f4 (lastF f4 128).toNat).length ≤ 1000000 := by have := missF_len a0 V4 f4 (lastF f4 128).toNat; have := lastF_bd f4 128; omega
          generalize missF a0 V4 f4 (lastF f4 128).toNat = L at *
          have c2 := href4.c2
          have wm : ¬ (a0 = 0) := by omega
          have wt : V4.tmod a0 = V4 % a0 := Int.tmod_eq_emod_of_nonneg hV4a
          have wt2 : IntKind.i64.wrap (V4 % a0) = V4 % a0 := IntWalk.i64_in _ (by have := Int.emod_lt_of_pos V4 (by omega : 0 < a0); have := Int.emod_nonneg V4 (by omega : a0 ≠ 0); omega)
          clear hrel4 hnd4 hf4 hq hfew
          go_wp2_with fail
          go_region_held3 (fun w' => w'.cell? ⟨C, 2, none⟩ = some (.int .i64 V4))
            (first | exact c2 | exact href5.c2 | exact href6.c2 | go_keep)
            ((first
              | (go_at_call_of 34 v3; refine HSAME.out.mono ?_; rintro e w' ⟨rfl, n, rfl⟩)
              | (go_at_call 31; refine (vr31 _ _ _ _ _ _ _ (hin4.drewN _)).mono ?_; rintro e w' ⟨rfl, rfl⟩)
              | (go_at_call 35; refine (rheld_is (href4.drewN _) q HQ.out.2).mono ?_; rintro e w' ⟨rfl, rfl⟩)
              | (go_at_call 36; refine (HM36.out _ (hin4.drewN _)).mono ?_; rintro e w5 ⟨v5, rfl, hr5, hb5⟩; have hin5 := (hin4.drewN _).below hb5; have href5 := (href4.drewN _).below hb5)
              | (go_at_call 37; refine (HM37.out _ href5).mono ?_; rintro e w6 ⟨v6, rfl, hr6, hb6⟩; have hin6 := hin5.below hb6; have href6 := href5.below hb6; have hr5' := (hr5.only (Only.of_below hb6) (by simp)).reads)
              | (go_at_call_of 34 v5; refine (same_self _ v5 v6 L hr5' hr6.reads hLlen).mono ?_; rintro e w' ⟨rfl, n2, rfl⟩)
              | (go_at_call 30; refine (held_is (hin6.drewN _) q HQ.out.1).mono ?_; rintro e w' ⟨rfl, rfl⟩)
              | (go_at_call 30; refine (held_is (hin4.drewN _) q HQ.out.1).mono ?_; rintro e w' ⟨rfl, rfl⟩)))
          clear c2 wm wt wt2
          go_wp2
          have hV4e : ((V + r1.length : Nat) : Int) = V4 := by have := HVV.out.1; omega
          have hb6' : Below w.heap.size w (w6.drewN n2) := by
            have z4 := hb4.size
            have z5 := hb5.size
            simp only [World.heap_drewN] at z5
            exact below_drewN (((below_drewN hb4 (1 + n)).trans (hb5.mono z4)).trans (hb6.mono (Nat.le_trans z4 z5))) n2
          have hV4b' : V + r1.length ≤ 129 * (j + 1) := by have := HVV.out; have := HTL.out; omega
          have HFIN := Lib.hid (And.intro hV4e (And.intro hb6' hV4b'))
          clear hV4e hb6' hV4b'
          go_roundw
          case rel => exact ⟨j + 1, V + r1.length, f4, rS, by omega, by go_num, by rw [HFIN.out.1]; exact hin6.drewN n2, by rw [HFIN.out.1]; exact href6.drewN n2, by rw [HFIN.out.1]; exact ⟨HREL.out.1, HREL.out.2.1, HREL.out.2.2.2.1, HFIN.out.2.2⟩, HFIN.out.2.1⟩
          case measure => simp [intOf]; omega
        · go_wp2
          go_ret
          exact ⟨rfl, hb⟩
  · have k28 := newIn28_no a0 a1
    have K28 := Lib.hid (fun w => k28 w w0 w1 hok)
    have K32 := Lib.hid (mod32 a0)
    clear k28
    by_cases hmb : modB a0 = true
    · have hm := modB_or a0 hmb
      have hm8 : 8 ≤ a0 := by omega
      have hm9 : a0 ≤ 128 := by omega
      rw [hmb] at K32
      by_cases h1 : a1 < 1
      · clear hok hmb hm
        go_enter Try.func9, Try.ntmps9
        go_wp2_with (first
          | (go_at_call 23; refine (awake23 _).mono ?_; rintro e w1 ⟨rfl, hb1⟩)
          | (go_at_call 28; refine (K28.out _).mono ?_; rintro e w2 ⟨rfl, rfl⟩)
          | (go_at_call 32; refine (K32.out _).mono ?_; rintro e w3 ⟨rfl, rfl⟩))
        go_ret
        exact ⟨rfl, hb1⟩
      · have h2 : a0 / 2 < a1 := by omega
        clear hok hmb hm
        go_enter Try.func9, Try.ntmps9
        go_wp2_with (first
          | (go_at_call 23; refine (awake23 _).mono ?_; rintro e w1 ⟨rfl, hb1⟩)
          | (go_at_call 28; refine (K28.out _).mono ?_; rintro e w2 ⟨rfl, rfl⟩)
          | (go_at_call 32; refine (K32.out _).mono ?_; rintro e w3 ⟨rfl, rfl⟩))
        go_ret
        exact ⟨rfl, hb1⟩
    · have hmf : modB a0 = false := by simpa using hmb
      rw [hmf] at K32
      clear hok hmb hmf
      go_enter Try.func9, Try.ntmps9
      go_wp2_with (first
        | (go_at_call 23; refine (awake23 _).mono ?_; rintro e w1 ⟨rfl, hb1⟩)
        | (go_at_call 28; refine (K28.out _).mono ?_; rintro e w2 ⟨rfl, rfl⟩)
        | (go_at_call 32; refine (K32.out _).mono ?_; rintro e w3 ⟨rfl, rfl⟩))
      go_ret
      exact ⟨rfl, hb1⟩

set_option maxRecDepth 100000 in
theorem lifted (os : Os) (started : os.Started) (H : Type) (enc : TypeId × Value → H) :
    ReturnsInHanded {} Try.checked os 9 .any (Rows.seqTakesSpec.pre6 enc Try.prog Try.f9 Rows.seqTakesRow.domain false) (Rows.seqTakesSpec.post enc Try.prog Try.f9 false true false false) := by
  refine returnsInHanded_of_change (C := Try.checked) own started (by kernel_rfl) Try.func9
    (ChangeSpec.witness6 (enc := enc) (C := Try.checked) false ⟨#[], #[.int .i64 0, .int .i64 0, .slice none 0 0], []⟩ 8 (by kernel_rfl) (by kernel_rfl) (by kernel_rfl) (by kernel_rfl)) ?_
  intro W base args ds gs before hval0 hW hcnd _
  have hval : ∀ (j : Nat) t v, Try.f9.params[j]? = some t → args[j]? = some v → Value.okWide Try.prog W .any base t v := hval0
  have hW' := hW
  obtain ⟨p, q, hA0, hV, rfl, hfz, hnd⟩ := hW
  have hA : DataW.TrodAll enc Try.prog W 0 (fun _ => true) true Try.f9.params.toList args.toList ds p := hA0
  rw [Try.params9] at hA hval
  obtain ⟨v0, vs0, d0, ds0, p0, q0, hargs, rfl, rfl, h0, r0⟩ := trodAll_cons hA
  obtain ⟨v1, vs1, d1, ds1, p1, q1, rfl, rfl, rfl, h1, r1⟩ := trodAll_cons r0
  obtain ⟨v2, vs2, d2, ds2, p2, q2, rfl, rfl, rfl, h2, r2⟩ := trodAll_cons r1
  obtain ⟨rfl, rfl, rfl⟩ := trodAll_nil r2
  obtain rfl : args = #[v0, v1, v2] := by cases args; simp_all
  obtain ⟨rfl, rfl⟩ := trodVars_none hV
  obtain ⟨a0, rfl, rfl, rfl, w0⟩ := open_int Try.underlying3 (hval 0 3 v0 rfl rfl) h0
  obtain ⟨a1, rfl, rfl, rfl, w1⟩ := open_int Try.underlying3 (hval 1 3 v1 rfl rfl) h1
  obtain ⟨a2, len2, cap2, rfl⟩ := okWide_slice Try.underlying22 (hval 2 22 v2 rfl rfl)
  have k2 := h2
  have lt2 : ∀ x ∈ p2, x.block < W.heap.size := by obtain ⟨m, hm⟩ := k2; exact DataW.trod_lt m _ _ _ hm
  obtain ⟨z2, w2⟩ : ∃ zs, IsRow .i64 W a2 len2 cap2 zs := open_row Try.underlying22 Try.underlying3 (by kernel_rfl) h2
  clear hA0 hval0
  refine (walk a0 a1 a2 len2 cap2 z2 W w0 w1 w2).mono fun e W' ⟨he, bel⟩ => ?_
  subst he
  exact ⟨_, rfl, _, _, _, [], _, [], hW', trodAll_mk1 (shut_bool Try.underlying4 _), (trodAll_cons_mk (shut_int Try.underlying3 w0) (trodAll_cons_mk (shut_int Try.underlying3 w1) (trodAll_cons_mk (Below.trod laidOut (by kernel_rfl) (of_decide_eq_true (by kernel_rfl)) k2 bel lt2) trodAll_mk0))), rfl, bel.frame _, fun h => by cases h⟩

theorem over : Rows.seqTakesRow.holds Try.pinned (OpenSpec.ofChange Rows.seqTakesSpec) :=
  OpenClaim.holds_of_wide 9 Try.f9 rfl rfl rfl rfl rfl rfl rfl ⟨rfl, rfl, rfl, rfl, rfl⟩ rfl rfl rfl rfl rfl (by kernel_rfl) Try.func9 (by kernel_rfl)
    (of_decide_eq_true (by kernel_rfl)) (by unfold Func.isWrapper; first | (rw [if_pos (by decide +kernel)]; kernel_rfl) | (rw [if_neg (by decide +kernel)]; exact ⟨rfl, rfl⟩))
    (fun os started H enc _ => lifted os started H enc)

theorem proved : Rows.SeqTakesSaid := over
#print axioms proved
end Go.Proofs.Ytfloemimimkgaaa.seqTakes
