/- TopDeaf, lifted to the form: it returns true for every input. No conditions but the form's own. -/
import Derived.Test.YtgljampcnbgbhaaGreatDoorGi
import Derived.Test.YtgljampcnbgbhaaGreatDoorJd
import Derived.ProofKit
import Derived.OpenShut
import Derived.LaidMore
import Derived.Lay
import Derived.ChangeOld
import Derived.SevenTiedAt
import Derived.Stop.Joined
set_option linter.unusedVariables false
set_option linter.unusedSimpArgs false
namespace Go.Proofs.YtgljampcnbgbhaaGreatDoor
open Go Go.ChangeShapes Go.WideShapes Go.ChangeAt Go.RowKit
set_option maxRecDepth 100000
theorem own : ownKnob Tryz.prog.godebug = none := by kernel_rfl
theorem laidOut : laidOutB Tryz.prog = true := jf1
theorem u8_bounds {n : Int} (h : (Lit.int .u8 n).wf = true) : 0 ≤ n ∧ n ≤ 255 := by
  have h' : (decide ((0 : Int) ≤ n) && decide (n ≤ 255)) = true := h
  simpa using h'
/-- What was handed over can be read. -/
theorem draws_of {W : World} {a : Option Addr} {len cap : Nat} {zs : List Int} (h : IsRow .u8 W a len cap zs) {o : Obj} (h0 : W.heap[0]? = some o) : ∃ db dr, W.heap[db]? = some dr ∧ (Ev.cx (.slice a len cap) dr db 2 2).Draws := by
  have hc : len ≤ cap ∧ cap ≤ maxLen := by
    rcases h with ⟨_, rfl, rfl, _⟩ | ⟨x, _, h1, h2, _⟩
    · exact ⟨Nat.le_refl _, Nat.zero_le _⟩
    · exact ⟨h1, h2⟩
  by_cases hl : 0 < len
  · obtain ⟨b, off, ha, hlt, hcell, _, _⟩ := h.at 0 hl
    have hb : ∃ cs el fz, W.heap[b]? = some (.cells cs el fz) := by
      unfold World.cell? at hcell
      split at hcell
      · rename_i cs el fz hh; exact ⟨cs, el, fz, hh⟩
      · cases hcell
    obtain ⟨cs, el, fz, hb⟩ := hb
    refine ⟨b, .cells cs el fz, hb, ⟨a, len, cap, rfl, hc.1, hc.2, fun i hi => ?_⟩⟩
    obtain ⟨b', off', ha', _, hcell', hwf, _⟩ := h.at i hi
    rw [ha] at ha'
    cases ha'
    have hb' := u8_bounds hwf
    refine ⟨off, cs, el, fz, zs.getD i 0, ha, rfl, ?_, hb'.1, hb'.2⟩
    simpa [World.cell?, hb] using hcell'
  · exact ⟨0, o, h0, ⟨a, len, cap, rfl, hc.1, hc.2, fun i hi => by omega⟩⟩
theorem walk {W : World} {t : Int} {a : Option Addr} {len cap : Nat} {zs : List Int} (hw : (Lit.int .u8 t).wf = true) (h : IsRow .u8 W a len cap zs) (hL : laidMetH Tryz.prog Rows.topDeafRow.laid W) (hsh : W.ShapedOpen Tryz.prog) :
    Calls Tryz.prog 3 #[.int .u8 t, .slice a len cap] W fun e W' => e = .returned (.bool true) ∧ Below W.heap.size W W' := by
  obtain ⟨cs, h0, hcs⟩ := space_block hL hsh
  obtain ⟨db, dr, hdb, hd⟩ := draws_of h h0
  have hb := u8_bounds hw
  exact Ev.law3 hb.1 hb.2 rfl hd (Ev.at0 h0 hcs hdb) fun C cap S ρ' w' hat => ⟨rfl, hat.os, hat.tape, hat.output, hat.size, hat.old⟩
theorem lifted (os : Os) (started : os.Started) (H : Type) (enc : TypeId × Value → H) :
    ReturnsInHanded {} Tryz.checked os 3 .any (fun w args => (Rows.topDeafSpec.pre enc Tryz.prog Tryz.f3 Rows.topDeafRow.domain false w args ∧ laidMetH Tryz.prog Rows.topDeafRow.laid w) ∧ sizedMet enc Tryz.prog Tryz.f3 (OpenSpec.ofChange Rows.topDeafSpec) false w args)
      (Rows.topDeafSpec.post enc Tryz.prog Tryz.f3 false true false false) := by
  refine returnsInHanded_of_calls own started (by kernel_rfl)
    (ChangeSpec.witness_shaped (enc := enc) (C := Tryz.checked) (os := os) (X := fun w _ => laidMetH Tryz.prog Rows.topDeafRow.laid w) false (World.laidAll Tryz.prog os Rows.topDeafRow.laid) #[.int .u8 0, .slice none 0 0] 8 (World.laidAll_os _ _ _)
      (World.shaped_of_ZipB (by kernel_rfl) (by kernel_rfl)) (by kernel_rfl) (by kernel_rfl) (by kernel_rfl)
      (by rw [MakeChecks.laidMetH_plain _ _ _ (by kernel_rfl)]; exact laidMet_laidAll _ (by kernel_rfl) (by kernel_rfl))) ?_
  intro w tape i _ hsh _ ⟨_, _, _, fn, hfn, _, _, _, _, hval1⟩ ⟨⟨⟨ds, gs, before, hW1, _⟩, hL1⟩, _⟩ _
  obtain rfl : fn = Tryz.f3 := Option.some.inj (hfn.symm.trans Tryz.func3)
  have hval0 := hval1
  have hW := DataW.Whole.of_heap (w' := w.forCall tape i) (by rfl) hW1
  have hL : laidMetH Tryz.prog Rows.topDeafRow.laid (w.forCall tape i) := hL1.of_heap (by rfl)
  refine Calls.mono (R := fun e W' => ∃ v, e = .returned v ∧ Rows.topDeafSpec.post enc Tryz.prog Tryz.f3 false true false false (w.forCall tape i) i.args v W') ?_ fun e W' ⟨v, he, hp⟩ => by subst he; exact ChangeSpec.post_blind hp
  generalize w.forCall tape i = W at *
  generalize i.args = args at *
  have hval : ∀ (j : Nat) t v, Tryz.f3.params[j]? = some t → args[j]? = some v → Value.okWide Tryz.prog W .any _ t v := hval0
  have hW' := hW
  obtain ⟨p, q, hA0, hV, rfl, _, _⟩ := hW
  have hA : DataW.TrodAll enc Tryz.prog W 0 (fun _ => true) true Tryz.f3.params.toList args.toList ds p := hA0
  rw [Tryz.params3] at hA hval
  obtain ⟨v0, vs0, d0, ds0, p0, q0, hargs, rfl, rfl, h0, r0⟩ := trodAll_cons hA
  obtain ⟨v1, vs1, d1, ds1, p1, q1, rfl, rfl, rfl, h1, r1⟩ := trodAll_cons r0
  obtain ⟨rfl, rfl, rfl⟩ := trodAll_nil r1
  obtain rfl : args = #[v0, v1] := by cases args; simp_all
  obtain ⟨rfl, rfl⟩ := trodVars_none hV
  obtain ⟨a0, rfl, rfl, rfl, w0⟩ := open_int Tryz.underlying5 (hval 0 5 v0 rfl rfl) h0
  obtain ⟨a1, len1, cap1, rfl⟩ := okWide_slice Tryz.underlying22 (hval 1 22 v1 rfl rfl)
  have k1 := h1
  have lt1 : ∀ x ∈ p1, x.block < W.heap.size := by obtain ⟨m, hm⟩ := k1; exact DataW.trod_lt m _ _ _ hm
  obtain ⟨z1, w1⟩ : ∃ zs, IsRow .u8 W a1 len1 cap1 zs := open_row Tryz.underlying22 Tryz.underlying5 (by kernel_rfl) h1
  clear hA0 hval0
  refine (walk w0 w1 hL hsh).mono fun e W' ⟨he, bel⟩ => ?_
  subst he
  exact ⟨_, rfl, _, _, _, [], _, [], hW', trodAll_mk1 (shut_bool Tryz.underlying4 _), (trodAll_cons_mk (shut_int Tryz.underlying5 w0) (trodAll_cons_mk (Below.trod laidOut (by kernel_rfl) (of_decide_eq_true (by kernel_rfl)) k1 bel lt1) trodAll_mk0)), rfl, bel.frame _, fun h => by cases h⟩
end Go.Proofs.YtgljampcnbgbhaaGreatDoor
