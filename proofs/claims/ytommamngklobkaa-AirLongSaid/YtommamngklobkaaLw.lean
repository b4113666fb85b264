/- AirLong walked: it returns true for every input (contract). No conditions but that the numbers are of Go's kinds and the slice reads as strings. -/
import Derived.Test.YtommamngklobkaaLo
namespace Go.Proofs.Ytommamngklobkaa
open Go.RowKit
set_option linter.unusedVariables false
theorem to_below5 {w w' : World} (h : Only [] w w') : Below w.heap.size w w' := ⟨h.os, h.tape, h.output, h.size, fun i hi => h.block i hi (by simp)⟩
/-- A slice of strings that came in. -/
def IsStrs (w : World) (a : Option Addr) (len cap : Nat) (fr : List ByteArray) : Prop :=
  fr.length = len ∧ len ≤ cap ∧ cap ≤ maxLen ∧ (∀ s ∈ fr, s.size ≤ maxLen) ∧ (0 < len → ∃ g off, a = some ⟨g, off, none⟩ ∧ ∀ i (h : i < fr.length), w.cell? ⟨g, off + i, none⟩ = some (.string fr[i]))
set_option maxRecDepth 100000 in
set_option maxHeartbeats 16000000 in
theorem walk5 (a0 a1 : Int) (a2 : Option Addr) (len2 cap2 : Nat) (fr : List ByteArray) (w : World) (w0 : (Lit.int .u8 a0).wf = true) (w1 : (Lit.int .u8 a1).wf = true) (hst : IsStrs w a2 len2 cap2 fr) :
    Calls Try.prog 5 #[.int .u8 a0, .int .u8 a1, .slice a2 len2 cap2] w fun e w' => e = .returned (.bool true) ∧ Below w.heap.size w w' := by
  have ⟨b0, b1⟩ := bounds_u8 w0
  have ⟨c0, c1⟩ := bounds_u8 w1
  obtain ⟨hlen, hcap, hmax, hsz, hrow⟩ := hst
  unfold maxLen at hmax
  by_cases h17 : len2 < 1 ∨ 7 < len2
  · have e1 : (decide ((len2 : Int) < 1) || decide (7 < (len2 : Int))) = true := by simp; omega
    rcases h17 with h | h
    · have h2 : (len2 : Int) < 1 := by omega
      clear hrow hsz hlen e1
      go_enter Try.func5, Try.ntmps5
      go_wp2_with fail
      refine (awake15 _).mono ?_
      rintro e w1 ⟨rfl, ho⟩
      have O := Lib.hid ho
      clear ho
      go_wp2
      go_ret
      exact ⟨rfl, to_below5 O.out⟩
    · have h2 : ¬ (len2 : Int) < 1 := by omega
      have h3 : (7 : Int) < (len2 : Int) := by omega
      clear hrow hsz hlen e1
      go_enter Try.func5, Try.ntmps5
      go_wp2_with fail
      refine (awake15 _).mono ?_
      rintro e w1 ⟨rfl, ho⟩
      have O := Lib.hid ho
      clear ho
      go_wp2
      go_ret
      exact ⟨rfl, to_below5 O.out⟩
  · obtain ⟨g, off, rfl, hc⟩ := hrow (by omega)
    have h2 : ¬ (len2 : Int) < 1 := by omega
    have h3 : ¬ (7 : Int) < (len2 : Int) := by omega
    have hcb : g < w.heap.size := by have := hc 0 (by omega); exact cell_lt this
    have HC := Lib.hid hc
    have HSZ := Lib.hid hsz
    have HL := Lib.hid hlen
    have L1 : 1 ≤ len2 := by omega
    have L7 : len2 ≤ 7 := by omega
    clear hrow hsz hc hlen h17
    go_enter Try.func5, Try.ntmps5
    go_wp2_with fail
    refine (awake15 _).mono ?_
    rintro e w1 ⟨rfl, ho⟩
    have O1 := Lib.hid ho
    clear ho
    go_wp2
    go_loop [7, 34] (fun n i => ∃ j : Nat, j ≤ len2 ∧ i = .int .i64 j ∧ n = .int .i64 (a0 + a1 + sumL (fr.take j)) ∧ Hid (∀ i (h : i < fr.length), i < j → fr[i].size ≤ 333)) (fun _ i => len2 - (intOf i).toNat)
    case atStart => exact ⟨0, Nat.zero_le _, rfl, by simp [sumL], fun i h hi => by omega⟩
    case round =>
      obtain ⟨j, hj, rfl, rfl, hsm⟩ := hrel
      by_cases hlt : j < len2
      · have hjf : j < fr.length := by have := HL.out; omega
        have hck := (World.cell?_of_block (a := ⟨g, off + j, none⟩) (O1.out.block g hcb (by simp))).trans (HC.out j hjf)
        have hsk := HSZ.out _ (List.getElem_mem hjf)
        have hsb := sumL_bd (fr.take j) (fun s hs => by
          obtain ⟨i, hi, rfl⟩ := List.getElem_of_mem hs
          rw [List.length_take] at hi
          rw [List.getElem_take]
          exact hsm.out i (by omega) (by omega))
        rw [List.length_take] at hsb
        have hst := Lib.hid (sumL_take fr j hjf)
        by_cases hb : 333 < fr[j].size
        · have hb2 : (333 : Int) < (fr[j].size : Int) := by omega
          clear hsk hb
          generalize fr[j] = x at *
          go_wp2
          go_ret
          exact ⟨rfl, to_below5 O1.out⟩
        · have hb2 : ¬ (333 : Int) < (fr[j].size : Int) := by omega
          have hx333 : fr[j].size ≤ 333 := by omega
          have k16 := fun w => long16 fr[j] w (by unfold maxLen; omega)
          have lb := longI_bd hx333
          have HB : Hid (∀ i (h : i < fr.length), i < j + 1 → fr[i].size ≤ 333) := Lib.hid (fun i h hi => by
            by_cases e : i = j
            · subst e; exact hx333
            · exact hsm.out i h (by omega))
          clear hsk hb hx333
          generalize fr[j] = x at *
          generalize sumL (fr.take j) = SJ at *
          go_wp2_with fail
          refine (k16 _).mono ?_
          rintro e w3 ⟨rfl, rfl⟩
          clear k16
          go_wp2
          go_round
          case rel => exact ⟨j + 1, by omega, by go_num, by rw [hst.out]; go_num, HB⟩
          case measure => simp [intOf]; omega
      · obtain rfl : j = len2 := by omega
        have hf : ∀ s ∈ fr, s.size ≤ 333 := fun s hs => by
          obtain ⟨i, hi, rfl⟩ := List.getElem_of_mem hs
          exact hsm.out i hi (by have := HL.out; omega)
        have htk : fr.take j = fr := by rw [← HL.out, List.take_length]
        rw [htk]
        have HF := Lib.hid hf
        have hsb := sumL_bd fr hf
        have hcond : ¬ ((j : Int) < (j : Int)) := by omega
        clear hsm hf htk
        go_wp2_with fail
        refine (fresh14 3 _ (by omega) (by omega)).mono ?_
        rintro e w2 ⟨d, v2, v3, rfl, hd, hA, ho, hmo⟩
        have a0' := hA (fun _ => 0) (fun _ => 0) (fun _ => newBu 0 0 [])
        have O2 := Lib.hid (O1.out.trans ho)
        have MO := Lib.hid (Nat.le_trans O1.out.size hmo)
        have loK : d.mo < d.K := by have := a0'.st.lo; omega
        have D := Lib.hid hd
        have hstr : StrR w2 (.slice (some ⟨g, off, none⟩) j cap2) fr := ⟨g, off, cap2, by rw [HL.out], by rw [HL.out]; exact hcap, by unfold maxLen; omega, fun i hi => (World.cell?_of_block (a := ⟨g, off + i, none⟩) (O2.out.block g hcb (by simp))).trans (HC.out i hi)⟩
        have k15 := send15 a0' 2 a0 a1 (by omega) (by simp) (by omega) (by omega) hstr HF.out (by rw [HL.out]; omega) (by rw [HL.out]; omega) (by simp)
        clear hA ho hmo hd O1 a0' hstr
        go_wp2_with fail
        refine k15.mono ?_
        rintro e w3 ⟨pb, rfl, h3, f3⟩
        have hn1 : 1 ≤ fr.length := by rw [HL.out]; omega
        have hn7 : fr.length ≤ 7 := by rw [HL.out]; omega
        have hsp : 1 ≤ sumL fr := by
          have := sum_cut fr 1
          obtain ⟨x, r, rfl⟩ : ∃ x r, fr = x :: r := by
            cases fr with
            | nil => simp at hn1
            | cons x r => exact ⟨x, r, rfl⟩
          have h1 := longI_bd (HF.out x (by simp))
          have h2 := sumL_bd r (fun s hs => HF.out s (by simp [hs]))
          simp only [sumL]; omega
        have I0 : LongI d a0 a1 fr 0 0 w3 := ⟨[2], _, 0, _, h3, by omega, by simpa using LS.start a0 a1 fr b0 c0 hn1 HF.out, Or.inl ⟨by omega, rfl⟩⟩
        have F3 := Lib.hid f3
        have N1 := Lib.hid (And.intro hn1 hn7)
        clear k15 h3 f3 hn1 hn7
        go_wp2
        obtain ⟨nn, hnn⟩ : ∃ nn : Int, nn = a0 + a1 + sumL fr := ⟨_, rfl⟩
        rw [← hnn]
        have hn0 : 1 ≤ nn := by omega
        have hn1 : nn ≤ 573 := by have := N1.out; omega
        have NN := Lib.hid hnn
        clear hnn hsb hsp
        go_loopw [13, 14, 15] (fun kk ta tt wr => ∃ T k : Nat, (T : Int) ≤ nn ∧ k ≤ j ∧ tt = .int .i64 ((T : Int) + 1) ∧ kk = .int .i64 k ∧ ta = .int .i64 (a0 + sumL (fr.take k)) ∧ LongI d a0 a1 fr T k wr ∧ Fr d.K d.mo w2 wr) (fun _ _ tt _ => 600 - (intOf tt).toNat)
        case atStart => exact ⟨0, 0, by omega, by omega, rfl, rfl, by simp [sumL], I0, F3.out⟩
        case round =>
          clear I0
          obtain ⟨T, k, hT, hk, rfl, rfl, rfl, hI, hf⟩ := hrel
          obtain ⟨w4, rfl⟩ : ∃ w4 : World, w4 = wr := ⟨_, rfl⟩
          have hO4 := Lib.hid (Fr.to_only O2.out hf MO.out loK)
          have hstb := sumL_bd (fr.take k) (fun s hs => HF.out s (List.mem_of_mem_take hs))
          rw [List.length_take] at hstb
          by_cases hTn : (T : Int) < nn
          · obtain ⟨p, N, B, ha, hle⟩ := hI.on (by have := NN.out; omega)
            have k19 := on19 ha.st ha.on 2 (wf_small (by omega) (by omega))
            rw [decide_eq_true (by simp : (2 : Int) ∈ [2])] at k19
            have k20 := left20 ha 2 (by simp)
            rw [hle, ← NN.out, show nn - (T : Int) = nn - ((T : Int) + 1) + 1 by omega] at k20
            have HI := Lib.hid hI
            have F4 := Lib.hid hf
            have HA := Lib.hid ha
            have hT1 : (T : Int) + 1 ≤ nn := by omega
            clear hI hf ha hle
            go_wp2_with fail
            refine k19.mono ?_
            rintro e w5 ⟨rfl, rfl⟩
            go_wp2_with fail
            refine k20.mono ?_
            rintro e w5 ⟨rfl, ho5⟩
            have A5 := HA.out.same ho5
            have k21 := hears21 A5.st A5.on A5.sub 1 (by have := D.out; omega)
            rw [show hB [2] 0 1 = true from rfl] at k21
            have O5 := Lib.hid ho5
            clear k19 k20 A5 ho5
            go_wp2_with fail
            refine k21.mono ?_
            rintro e w6 ⟨rfl, ho6⟩
            have o6 : Only [] w6 (w6.alloc (.cells #[.string (oneS 120)] 9)) := (Only.refl [] w6).alloc _
            have A6 := ((HA.out.same O5.out).same ho6).same o6
            have kbs := send15_busy A6 2 0 0 (by simp) (by omega) (by omega) (StrR.one w6 (oneS 120)) (by simp; decide) (by simp) (by simp)
            have O6 := Lib.hid ((O5.out.trans ho6).trans o6)
            clear k21 A6 ho6 o6
            go_wp2_with fail
            refine kbs.mono ?_
            rintro e w7 ⟨rfl, ho7⟩
            have O7 := Lib.hid (O6.out.trans ho7)
            clear kbs ho7
            have I7 := HI.out.only O7.out
            have hrow7 : ∀ i (h : i < fr.length), w7.cell? ⟨g, off + i, none⟩ = some (.string fr[i]) := fun i hi => (World.cell?_of_block (a := ⟨g, off + i, none⟩) ((hO4.out.trans O7.out).block g hcb (by simp))).trans (HC.out i hi)
            have HR7 := Lib.hid hrow7
            clear hrow7
            by_cases hcm : Comes a0 fr T k
            · obtain ⟨hkf, hc⟩ := hcm
              have k17 := long_yes D.out I7 b1 c1 N1.out.1 N1.out.2 HF.out (by have := NN.out; omega) hkf hc
              have hs333 := HF.out _ (List.getElem_mem hkf)
              have k16 := fun w => long16 fr[k] w (by unfold maxLen; omega)
              have lb := longI_bd hs333
              have hst := Lib.hid (sumL_take fr k hkf)
              have hckall : ∀ w8, Only [] w w8 → w8.cell? ⟨g, off + k, none⟩ = some (.string fr[k]) := fun w8 ho8 => (World.cell?_of_block (a := ⟨g, off + k, none⟩) (ho8.block g hcb (by simp))).trans (HC.out k hkf)
              have HCK := Lib.hid hckall
              have hkj : (k : Int) < (j : Int) := by have := HL.out; omega
              have hkj2 := Lib.hid (show k + 1 ≤ j by have := HL.out; omega)
              have HCC := Lib.hid hc
              have htq : ((T : Int) + 1 == a0 + sumL (fr.take k) + longI fr[k]) = true := by simpa using hc
              clear hckall hs333 hc I7
              go_wp2_with fail
              refine k17.mono ?_
              rintro e w8 ⟨v8, rfl, hg8, hf8, hI8⟩
              have ho8 := Fr.to_only (hO4.out.trans O7.out) hf8 MO.out loK
              have hck := HCK.out w8 ho8
              obtain ⟨aa, cap8, rfl, _, hmax8, hcells⟩ := hg8.at
              obtain ⟨g8, rfl, q0, q1, q2, q3⟩ := hcells 0 (by simp)
              obtain ⟨g8', e8, q4, q5, q6, q7⟩ := hcells 1 (by simp)
              obtain rfl : g8 = g8' := by cases e8; rfl
              have r1 : w8.cell? ⟨g8, 1, none⟩ = some (.int .i64 1) := q1
              have r2 : w8.cell? ⟨g8, 2, none⟩ = some (.string fr[k]) := q2
              have r5 : w8.cell? ⟨g8, 5, none⟩ = some (.int .i64 3) := q5
              have r6 : w8.cell? ⟨g8, 6, none⟩ = some (.string fr[k]) := q6
              have I8 := Lib.hid hI8
              have F8 := Lib.hid ((F4.out.trans (Fr.of_only O7.out (by simp))).trans hf8)
              clear k17 hg8 hf8 hI8 hcells q0 q1 q2 q3 q4 q5 q6 q7 ho8 e8
              unfold maxLen at hmax8
              generalize longI fr[k] = LK at *
              generalize fr[k] = x at *
              generalize sumL (fr.take k) = SK at *
              go_wp2_with fail
              refine (k16 _).mono ?_
              rintro e w9 ⟨rfl, rfl⟩
              clear k16
              go_wp2
              go_quiet (fail)
              go_wp2
              go_roundw
              case rel =>
                refine ⟨T + 1, k + 1, by omega, hkj2.out, by go_num, by go_num, ?_, I8.out.only ((Only.refl [] w8).drewN nq), F8.out.trans (Fr.of_only ((Only.refl [] w8).drewN nq) (by simp))⟩
                rw [hst.out, ← Int.add_assoc, ← HCC.out]
              case measure => simp [intOf]; omega
            · have k17 := long_no D.out I7 b1 c1 N1.out.1 N1.out.2 HF.out (by have := NN.out; omega) hcm
              by_cases hkj : k < j
              · have hkf : k < fr.length := by have := HL.out; omega
                have hs333 := HF.out _ (List.getElem_mem hkf)
                have k16 := fun w => long16 fr[k] w (by unfold maxLen; omega)
                have lb := longI_bd hs333
                have hckall : ∀ w8, Only [] w w8 → w8.cell? ⟨g, off + k, none⟩ = some (.string fr[k]) := fun w8 ho8 => (World.cell?_of_block (a := ⟨g, off + k, none⟩) (ho8.block g hcb (by simp))).trans (HC.out k hkf)
                have HCK := Lib.hid hckall
                have hkji : (k : Int) < (j : Int) := by omega
                have hne : ¬ ((T : Int) + 1 = a0 + sumL (fr.take k) + longI fr[k]) := fun e => hcm ⟨hkf, e⟩
                have htq : ((T : Int) + 1 == a0 + sumL (fr.take k) + longI fr[k]) = false := by simpa using hne
                have SKE : Hid (sumL (fr.take k) = sumL (fr.take k)) := Lib.hid rfl
                clear hckall hs333 I7 hcm hne
                go_wp2_with fail
                refine k17.mono ?_
                rintro e w8 ⟨v8, rfl, hg8, hf8, hI8⟩
                have ho8 := Fr.to_only (hO4.out.trans O7.out) hf8 MO.out loK
                have hck := HCK.out w8 ho8
                obtain ⟨aa, cap8, rfl, _, hmax8, hcells⟩ := hg8.at
                have I8 := Lib.hid hI8
                have F8 := Lib.hid ((F4.out.trans (Fr.of_only O7.out (by simp))).trans hf8)
                clear k17 hg8 hf8 hI8 hcells ho8
                unfold maxLen at hmax8
                generalize longI fr[k] = LK at *
                generalize fr[k] = x at *
                obtain ⟨SK, hSK⟩ : ∃ SK, SK = sumL (fr.take k) := ⟨_, rfl⟩
                rw [← hSK] at htq hstb
                have HSK := Lib.hid hSK
                rw [← hSK]
                clear hSK SKE
                go_wp2_with fail
                refine (k16 _).mono ?_
                rintro e w9 ⟨rfl, rfl⟩
                clear k16
                go_wp2
                go_roundw
                case rel => exact ⟨T + 1, k, by omega, hk, by go_num, rfl, by rw [HSK.out], I8.out, F8.out⟩
                case measure => simp [intOf]; omega
              · have hkji : ¬ (k : Int) < (j : Int) := by omega
                clear I7 hcm
                go_wp2_with fail
                refine k17.mono ?_
                rintro e w8 ⟨v8, rfl, hg8, hf8, hI8⟩
                obtain ⟨aa, cap8, rfl, _, hmax8, hcells⟩ := hg8.at
                have I8 := Lib.hid hI8
                have F8 := Lib.hid ((F4.out.trans (Fr.of_only O7.out (by simp))).trans hf8)
                clear k17 hg8 hf8 hI8 hcells
                unfold maxLen at hmax8
                obtain ⟨SK, hSK⟩ : ∃ SK, SK = sumL (fr.take k) := ⟨_, rfl⟩
                rw [← hSK] at hstb
                have HSK := Lib.hid hSK
                rw [← hSK]
                clear hSK
                go_wp2
                go_roundw
                case rel => exact ⟨T + 1, k, by omega, hk, by go_num, rfl, by rw [HSK.out], I8.out, F8.out⟩
                case measure => simp [intOf]; omega
          · obtain ⟨hke, p, N, B, ha⟩ := hI.off (by have := NN.out; omega) HF.out
            have k18 := quiet18 ha.st ha.on
            rw [show (((([] : List Int).length : Nat) : Int) == 0) = true from rfl] at k18
            have k21 := hears21 ha.st ha.on ha.sub 1 (by have := D.out; omega)
            rw [show hB [] 0 1 = false from rfl] at k21
            have hkj : k = j := by have := HL.out; omega
            have F4 := Lib.hid hf
            have hTn2 : ¬ ((T : Int) + 1 ≤ nn) := by omega
            clear hI hf ha hke
            subst hkj
            go_wp2_with fail
            refine k18.mono ?_
            rintro e w5 ⟨rfl, rfl⟩
            go_wp2_with fail
            refine k21.mono ?_
            rintro e w6 ⟨rfl, ho6⟩
            have O6 := Lib.hid (Fr.to_only O2.out (F4.out.trans (Fr.of_only ho6 (by simp))) MO.out loK)
            clear k18 k21 ho6
            go_wp2
            go_ret
            exact ⟨by simp, to_below5 O6.out⟩
end Go.Proofs.Ytommamngklobkaa
