/- SeqThrough returns true for every input, and leaves what it was handed as it was; no condition beside the form's own. -/
import Derived.Test.YtfloemimimkgaaaTh
import Derived.Test.YtfloemimimkgaaaRows
import Derived.WalkKit
import Derived.ProofKit
import Derived.OpenShut
import Derived.ShutString
import Derived.ChangeOld
import Derived.Below
namespace Go.Proofs.Ytfloemimimkgaaa.seqThrough
open Go.ChangeShapes Go.WideShapes Go.ChangeAt Go.RowKit
open Go.ChangeMaps (open_string shut_string)
set_option linter.unusedVariables false

theorem own : ownKnob Try.prog.godebug = none := by kernel_rfl
theorem laidOut : laidOutB Try.prog = true := by kernel_rfl

set_option maxRecDepth 100000 in
set_option maxHeartbeats 16000000 in
theorem walk (a0 : Bool) (a1 : Int) (a2 : Option Addr) (len2 cap2 : Nat) (z2 : Nat → Int × Int) (w : World) (w1 : (Lit.int .i64 a1).wf = true) (hrow : IsPairs w a2 len2 cap2 z2) :
    Calls Try.prog 10 #[.bool a0, .int .i64 a1, .slice a2 len2 cap2] w fun e w' => e = .returned (.bool true) ∧ Below w.heap.size w w' := by
  have ⟨bk0, bk1⟩ := bounds_i64 w1
  cases a0
  · by_cases hk : a1 < 1
    · go_enter Try.func10, Try.ntmps10
      go_wp2_with (go_at_call 23; refine (awake23 _).mono ?_; rintro e w1 ⟨rfl, hb1⟩)
      go_ret
      exact ⟨rfl, hb1⟩
    · by_cases hk2 : 4 < a1
      · go_enter Try.func10, Try.ntmps10
        go_wp2_with (go_at_call 23; refine (awake23 _).mono ?_; rintro e w1 ⟨rfl, hb1⟩)
        go_ret
        exact ⟨rfl, hb1⟩
      · by_cases hl : 400 < len2
        · go_enter Try.func10, Try.ntmps10
          go_wp2_with (go_at_call 23; refine (awake23 _).mono ?_; rintro e w1 ⟨rfl, hb1⟩)
          go_ret
          exact ⟨rfl, hb1⟩
        · go_enter Try.func10, Try.ntmps10
          go_wp2_with (first
            | (go_at_call 23; refine (awake23 _).mono ?_; rintro e w1 ⟨rfl, hb1⟩)
            | (go_at_call 38; refine (newOut38 8 a1 _ (by decide) (by omega) (by omega)).mono ?_; rintro e w2 ⟨rfl, rfl⟩)
            | (go_at_call 28; refine (newIn28 8 a1 _ (by decide) (by omega) (by omega)).mono ?_; rintro e w3 ⟨rfl, hin, hb3⟩))
          have hOut : OutW w3 w1.heap.size 8 a1 0 0 := by
            have h1 : OutW (w1.alloc (.cells #[.int .i64 8, .int .i64 a1, .int .i64 0, .int .i64 0] 81)) w1.heap.size 8 a1 0 0 := by
              unfold OutW Four
              simpa using heap_new w1 (.cells #[.int .i64 8, .int .i64 a1, .int .i64 0, .int .i64 0] 81)
            exact Four.below h1 hb3
          have s1 := hb1.size
          have hbe : Below w.heap.size w w3 := (hb1.alloc s1 (.cells #[.int .i64 8, .int .i64 a1, .int .i64 0, .int .i64 0] 81)).trans (hb3.mono (by simp; omega))
          simp only [World.size_alloc] at hin
          clear hb3 hb1
          generalize w1.heap.size = B at *
          have HT := Lib.hid (Thr.start 8 a1 (by omega))
          go_loopw [12, 13, 62] (fun s12 s13 i wr => ∃ (j A O V : Nat) (f : Nat → Bool) (S : List Int), j ≤ len2 ∧ i = .int .i64 j ∧ s12 = .int .i64 O ∧ s13 = .int .i64 V ∧ OutW wr B 8 a1 A O ∧ InW wr (B + 1 + 1) (B + 1) 8 a1 ((V : Int) % 8) S ∧ Hid (Thr 8 a1 j A O V f S) ∧ Below w.heap.size w wr) (fun _ _ i _ => len2 - (intOf i).toNat)
          case atStart => exact ⟨0, 0, 0, 0, _, _, by omega, rfl, rfl, rfl, hOut, by simpa using hin, HT.out, hbe⟩
          case round =>
            clear hOut hin hbe HT
            obtain ⟨j, A, O, V, f, S, hj, rfl, rfl, rfl, hout, hin, hid, hb⟩ := hrel
            by_cases hlt : j < len2
            · obtain ⟨b, off, rfl, hbl, hc0, hc1, hw0, hw1, hml⟩ := hrow.at j hlt
              have hd0 := (hb.cell (p := ⟨b, off + j * 2, none⟩) hbl).trans hc0
              have hd1 := (hb.cell (p := ⟨b, off + j * 2 + 1, none⟩) hbl).trans hc1
              have hbK := bounds_i64 hw0
              have hbA := bounds_i64 hw1
              clear hc0 hc1 hw0 hw1
              generalize (z2 j).1 = sk at *
              generalize (z2 j).2 = sa at *
              unfold maxLen at hml
              have hcase : sk = 0 ∨ sk = 1 ∨ sk = 2 ∨ (sk ≠ 0 ∧ sk ≠ 1 ∧ sk ≠ 2) := by omega
              have hbsz := hb.size
              rcases hcase with rfl | rfl | rfl | ⟨n0, n1, n2⟩
              · have hout1 : OutW (wr.alloc (.cells #[.int .i64 0, .int .i64 sa] 64)) B 8 a1 A O := Four.only hout ((Only.refl [] wr).alloc _) (by simp)
                have hin1 := hin.only ((Only.refl [] wr).alloc (.cells #[.int .i64 0, .int .i64 sa] 64)) (by simp) (by simp)
                have hb1 := hb.alloc hbsz (.cells #[.int .i64 0, .int .i64 sa] 64)
                have hT := hid.out
                obtain ⟨_, _, _, hx1, hx2, hx3, _, hx4⟩ := hid.out
                by_cases hfull : (O : Int) - A = a1
                · have K1 := next39 B 8 a1 A O _ hout1 (Or.inl rfl) (by omega) hT.2.2.2.2.2.1 (by omega)
                  rw [nxR, if_pos hfull] at K1
                  have K := Lib.hid K1
                  have hid' : Hid (Thr 8 a1 (j + 1) A O V f S) := Thr.more hT (by omega)
                  clear hfull K1 hT hid hx1 hx2 hx3 hx4
                  go_wp2_with fail
                  refine K.out.mono ?_
                  rintro e w4 ⟨rfl, hout', ho4⟩
                  have hin' := hin1.only ho4 (by simp; omega) (by simp)
                  have hb' := ho4.to_below hb1 hb1.size (by simp; omega)
                  simp only at hout'
                  clear hout hin hb hout1 hin1 hb1 ho4 K
                  go_wp2_with fail
                  generalize hA' : A = A' at *
                  generalize hO' : O = O' at *
                  generalize hV' : V = V' at *
                  generalize f = f' at *
                  generalize S = S' at *
                  clear hA' hO' hV'
                  have hVOn : V' ≤ O' := hid'.out.2.2.2.2.1
                  have hVO : decide (O' < V') = false := by simp; omega
                  have hV0 : (0 : Int) ≤ (V' : Int) := by omega
                  have hVb : (V' : Int) ≤ 1000 := by have := hid'.out.2.2.2.2.2.2.2; omega
                  have wt : (V' : Int).tmod 8 = (V' : Int) % 8 := Int.tmod_eq_emod_of_nonneg hV0
                  have wt2 : IntKind.i64.wrap ((V' : Int) % 8) = (V' : Int) % 8 := IntWalk.i64_in _ (by omega)
                  go_quiet (first | (go_at_call 31; exact vr31q hin' _))
                  clear wt wt2
                  go_wp2
                  go_roundw
                  case rel => exact ⟨j + 1, A', O', V', f', S', by omega, by go_num, rfl, rfl, Four.drewN hout' nq, hin'.drewN nq, hid', below_drewN hb' nq⟩
                  case measure => simp [intOf]; omega
                · have K1 := next39 B 8 a1 A O _ hout1 (Or.inl rfl) (by omega) hT.2.2.2.2.2.1 (by omega)
                  rw [nxR, if_neg hfull] at K1
                  have K := Lib.hid K1
                  have hid' : Hid (Thr 8 a1 (j + 1) A (O + 1) V f S) := Thr.opened hT (by omega)
                  have hOb : (O : Int) ≤ 1000 := by have := hT.2.2.2.2.2.2.2; omega
                  clear hfull K1 hT hid hx1 hx2 hx3 hx4
                  go_wp2_with fail
                  refine K.out.mono ?_
                  rintro e w4 ⟨rfl, hout', ho4⟩
                  have hin' := hin1.only ho4 (by simp; omega) (by simp)
                  have hb' := ho4.to_below hb1 hb1.size (by simp; omega)
                  simp only at hout'
                  clear hout hin hb hout1 hin1 hb1 ho4 K
                  go_wp2_with fail
                  have eO : (O : Int) + 1 = ((O + 1 : Nat) : Int) := by omega
                  rw [eO]
                  generalize hA' : A = A' at *
                  generalize hO' : O + 1 = O' at *
                  generalize hV' : V = V' at *
                  generalize f = f' at *
                  generalize S = S' at *
                  clear hA' hO' hV' eO hOb
                  have hVOn : V' ≤ O' := hid'.out.2.2.2.2.1
                  have hVO : decide (O' < V') = false := by simp; omega
                  have hV0 : (0 : Int) ≤ (V' : Int) := by omega
                  have hVb : (V' : Int) ≤ 1000 := by have := hid'.out.2.2.2.2.2.2.2; omega
                  have wt : (V' : Int).tmod 8 = (V' : Int) % 8 := Int.tmod_eq_emod_of_nonneg hV0
                  have wt2 : IntKind.i64.wrap ((V' : Int) % 8) = (V' : Int) % 8 := IntWalk.i64_in _ (by omega)
                  go_quiet (first | (go_at_call 31; exact vr31q hin' _))
                  clear wt wt2
                  go_wp2
                  go_roundw
                  case rel => exact ⟨j + 1, A', O', V', f', S', by omega, by go_num, rfl, rfl, Four.drewN hout' nq, hin'.drewN nq, hid', below_drewN hb' nq⟩
                  case measure => simp [intOf]; omega
              · have hout1 : OutW (wr.alloc (.cells #[.int .i64 1, .int .i64 sa] 64)) B 8 a1 A O := Four.only hout ((Only.refl [] wr).alloc _) (by simp)
                have hin1 := hin.only ((Only.refl [] wr).alloc (.cells #[.int .i64 1, .int .i64 sa] 64)) (by simp) (by simp)
                have hb1 := hb.alloc hbsz (.cells #[.int .i64 1, .int .i64 sa] 64)
                obtain ⟨_, _, _, hx1, hx2, hx3, _, hx4⟩ := hid.out
                have K := Lib.hid (open40 B 8 a1 A O _ hout1 (Or.inl rfl) (by omega) (by omega))
                have e0 : (wr.alloc (.cells #[.int .i64 1, .int .i64 sa] 64)).cell? ⟨wr.heap.size, 1, none⟩ = some (.int .i64 sa) := nc21 wr _ _ _
                have hsz1 : wr.heap.size < (wr.alloc (.cells #[.int .i64 1, .int .i64 sa] 64)).heap.size := by simp
                go_wp2_with fail
                refine K.out.mono ?_
                rintro e w3 ⟨v3, rfl, hr3, hb3⟩
                have hout3 : OutW w3 B 8 a1 A O := Four.below hout1 hb3
                have hin3 := hin1.below hb3
                have e3 := (hb3.cell (p := ⟨wr.heap.size, 1, none⟩) hsz1).trans e0
                have hbe3 := hb1.trans (hb3.mono hb1.size)
                obtain ⟨ad, cap, hv, hcells⟩ := hr3.at
                rw [opn_len] at hv hcells
                rw [hv]
                clear hv hr3 hb3 hout1 hin1 hb1 K e0 hout hin hb
                by_cases hz : O - A = 0
                · rw [hz] at hcells ⊢
                  have hid' : Hid (Thr 8 a1 (j + 1) A O V f S) := Thr.more hid.out (by omega)
                  clear hz hx1 hx2 hx3 hx4 hid hcells
                  go_wp2_with fail
                  go_roundw
                  case rel => exact ⟨j + 1, A, O, V, f, S, by omega, by go_num, rfl, rfl, hout3, hin3, hid', hbe3⟩
                  case measure => simp [intOf]; omega
                · obtain ⟨t, ht, htv⟩ : ∃ t : Nat, t < O - A ∧ (((sa < 0 ∨ ((O - A : Nat) : Int) ≤ sa) ∧ t = 0) ∨ (0 ≤ sa ∧ sa < ((O - A : Nat) : Int) ∧ sa = t)) := by
                    by_cases q : 0 ≤ sa ∧ sa < ((O - A : Nat) : Int)
                    · exact ⟨sa.toNat, by omega, Or.inr ⟨q.1, q.2, by omega⟩⟩
                    · exact ⟨0, by omega, Or.inl ⟨by omega, rfl⟩⟩
                  obtain ⟨g, rfl, hcell⟩ := hcells t ht
                  have hgl : (opn 8 A (O - A)).getD t 0 = ((A + t : Nat) : Int) % 8 := opn_getD _ _ _ _ ht
                  rw [hgl] at hcell
                  obtain ⟨V2, f2, y1, y2, y3, y4, y5, y6, y7, y8⟩ := tk_through (m := 8) (k := a1) (Or.inl rfl) (by omega) (by omega) V A O (A + t) f S hid.out.1 hid.out.2.1 hid.out.2.2.1 hx1 hx2 hx3 hid.out.2.2.2.2.2.2.1 (by omega) (by omega)
                  have hnsw : Wf (((A + t : Nat) : Int) % 8) := wf_small (Int.emod_nonneg _ (by omega)) (by have := Int.emod_lt_of_pos ((A + t : Nat) : Int) (by omega : (0 : Int) < 8); omega)
                  have hSl : S.length ≤ 128 := by rw [hid.out.1.len]; exact cnt_le f 128
                  have K29 := Lib.hid (take29 (B + 1 + 1) (B + 1) 8 a1 ((V : Int) % 8) (((A + t : Nat) : Int) % 8) S w3 hin3 hnsw (Or.inl rfl) (Int.emod_nonneg _ (by omega)) (Int.emod_lt_of_pos _ (by omega)) (by omega))
                  have htl := tk_len 8 a1 ((V : Int) % 8) S (((A + t : Nat) : Int) % 8)
                  generalize tk 8 a1 ((V : Int) % 8) S (((A + t : Nat) : Int) % 8) = r at *
                  obtain ⟨r1, en, rv, rS⟩ := r
                  simp only at y1 y2 y3 y5 y8 htl K29
                  subst y1
                  obtain ⟨V', rfl⟩ : ∃ V' : Nat, V2 = (V' : Int) := ⟨V + r1.length, by omega⟩
                  have hid' : Hid (Thr 8 a1 (j + 1) A O V' f2 rS) := ⟨y2, y3, y4, by omega, by omega, hx3, y7, by omega⟩
                  have HY := Lib.hid (And.intro y5 y8)
                  have hlr : r1.length ≤ 200 := by omega
                  have hVb : V ≤ 1000 := by omega
                  have HX := Lib.hid (And.intro hx1 hx2)
                  have hcs : (O - A : Nat) ≤ 1000 := by omega
                  have hz' : 0 < O - A := by omega
                  clear hx1 hx2 hx3 hx4 hid y2 y3 y4 y5 y6 y7 y8 hcells hgl hnsw hSl htl hz
                  generalize ((A + t : Nat) : Int) % 8 = ns at *
                  generalize hN : O - A = N at *
                  clear hN
                  rcases htv with ⟨hsa, rfl⟩ | ⟨hs0, hs1, rfl⟩
                  · by_cases hneg : sa < 0
                    · clear hsa
                      go_wp2_with fail
                      refine K29.out.mono ?_
                      rintro e w4 ⟨v4, rfl, hr4, hin', ho4⟩
                      have hout' : OutW w4 B 8 a1 A O := Four.only hout3 ho4 (by simp; omega)
                      have hb' := ho4.to_below hbe3 hbe3.size (by simp; omega)
                      simp only at hin' hr4
                      obtain ⟨ad4, cap4, hv4, hcells4⟩ := hr4.at
                      rw [hv4]
                      clear hv4 hr4 ho4 hout3 hin3 hbe3 hcell K29 e3
                      go_wp2_with fail
                      go_loopw [13, 112] (fun c i wx => wx = w4 ∧ ∃ q : Nat, q ≤ r1.length ∧ i = .int .i64 q ∧ c = .int .i64 ((V + q : Nat) : Int)) (fun _ i _ => r1.length - (intOf i).toNat)
                      case atStart => exact ⟨rfl, 0, by omega, rfl, by simp⟩
                      case round =>
                        obtain ⟨rfl, q, hq, rfl, rfl⟩ := hrel
                        by_cases hlt4 : q < r1.length
                        · obtain ⟨g4, rfl, hc4⟩ := hcells4 q hlt4
                          have hval := HY.out.2 q hlt4
                          rw [hval] at hc4
                          have eVq : (V : Int) + q = ((V + q : Nat) : Int) := by omega
                          rw [eVq] at hc4
                          have hVq : (0 : Int) ≤ ((V + q : Nat) : Int) := by omega
                          have hVq2 : ((V + q : Nat) : Int) ≤ 5000 := by omega
                          clear hval eVq
                          generalize hx : V + q = x at *
                          have HXX := Lib.hid hx
                          clear hx
                          go_wp2
                          go_roundw
                          case rel => exact ⟨by first | rfl | trivial, q + 1, by omega, by go_num, num_next HXX.out⟩
                          case measure => simp [intOf]; omega
                        · obtain rfl : q = r1.length := by omega
                          have hVV : ((V + r1.length : Nat) : Int) = (V' : Int) := by have := HY.out.1; omega
                          rw [hVV]
                          clear hlt4 hVV hcells4
                          go_wp2_with fail
                          generalize hA' : A = A' at *
                          generalize hO' : O = O' at *
                          generalize f2 = f' at *
                          generalize rS = S' at *
                          clear hA' hO'
                          have hVOn : V' ≤ O' := hid'.out.2.2.2.2.1
                          have hVO : decide (O' < V') = false := by simp; omega
                          have hV0 : (0 : Int) ≤ (V' : Int) := by omega
                          have hVb : (V' : Int) ≤ 1000 := by have := hid'.out.2.2.2.2.2.2.2; omega
                          have wt : (V' : Int).tmod 8 = (V' : Int) % 8 := Int.tmod_eq_emod_of_nonneg hV0
                          have wt2 : IntKind.i64.wrap ((V' : Int) % 8) = (V' : Int) % 8 := IntWalk.i64_in _ (by omega)
                          go_quiet (first | (go_at_call 31; exact vr31q hin' _))
                          clear wt wt2
                          go_wp2
                          go_roundw
                          case rel => exact ⟨j + 1, A', O', V', f', S', by omega, by go_num, rfl, rfl, Four.drewN hout' nq, hin'.drewN nq, hid', below_drewN hb' nq⟩
                          case measure => simp [intOf]; omega
                    · have hge : ((N : Nat) : Int) ≤ sa := by omega
                      clear hsa
                      go_wp2_with fail
                      refine K29.out.mono ?_
                      rintro e w4 ⟨v4, rfl, hr4, hin', ho4⟩
                      have hout' : OutW w4 B 8 a1 A O := Four.only hout3 ho4 (by simp; omega)
                      have hb' := ho4.to_below hbe3 hbe3.size (by simp; omega)
                      simp only at hin' hr4
                      obtain ⟨ad4, cap4, hv4, hcells4⟩ := hr4.at
                      rw [hv4]
                      clear hv4 hr4 ho4 hout3 hin3 hbe3 hcell K29 e3
                      go_wp2_with fail
                      go_loopw [13, 112] (fun c i wx => wx = w4 ∧ ∃ q : Nat, q ≤ r1.length ∧ i = .int .i64 q ∧ c = .int .i64 ((V + q : Nat) : Int)) (fun _ i _ => r1.length - (intOf i).toNat)
                      case atStart => exact ⟨rfl, 0, by omega, rfl, by simp⟩
                      case round =>
                        obtain ⟨rfl, q, hq, rfl, rfl⟩ := hrel
                        by_cases hlt4 : q < r1.length
                        · obtain ⟨g4, rfl, hc4⟩ := hcells4 q hlt4
                          have hval := HY.out.2 q hlt4
                          rw [hval] at hc4
                          have eVq : (V : Int) + q = ((V + q : Nat) : Int) := by omega
                          rw [eVq] at hc4
                          have hVq : (0 : Int) ≤ ((V + q : Nat) : Int) := by omega
                          have hVq2 : ((V + q : Nat) : Int) ≤ 5000 := by omega
                          clear hval eVq
                          generalize hx : V + q = x at *
                          have HXX := Lib.hid hx
                          clear hx
                          go_wp2
                          go_roundw
                          case rel => exact ⟨by first | rfl | trivial, q + 1, by omega, by go_num, num_next HXX.out⟩
                          case measure => simp [intOf]; omega
                        · obtain rfl : q = r1.length := by omega
                          have hVV : ((V + r1.length : Nat) : Int) = (V' : Int) := by have := HY.out.1; omega
                          rw [hVV]
                          clear hlt4 hVV hcells4
                          go_wp2_with fail
                          generalize hA' : A = A' at *
                          generalize hO' : O = O' at *
                          generalize f2 = f' at *
                          generalize rS = S' at *
                          clear hA' hO'
                          have hVOn : V' ≤ O' := hid'.out.2.2.2.2.1
                          have hVO : decide (O' < V') = false := by simp; omega
                          have hV0 : (0 : Int) ≤ (V' : Int) := by omega
                          have hVb : (V' : Int) ≤ 1000 := by have := hid'.out.2.2.2.2.2.2.2; omega
                          have wt : (V' : Int).tmod 8 = (V' : Int) % 8 := Int.tmod_eq_emod_of_nonneg hV0
                          have wt2 : IntKind.i64.wrap ((V' : Int) % 8) = (V' : Int) % 8 := IntWalk.i64_in _ (by omega)
                          go_quiet (first | (go_at_call 31; exact vr31q hin' _))
                          clear wt wt2
                          go_wp2
                          go_roundw
                          case rel => exact ⟨j + 1, A', O', V', f', S', by omega, by go_num, rfl, rfl, Four.drewN hout' nq, hin'.drewN nq, hid', below_drewN hb' nq⟩
                          case measure => simp [intOf]; omega
                  · have htN : t < N := ht
                    go_wp2_with fail
                    refine K29.out.mono ?_
                    rintro e w4 ⟨v4, rfl, hr4, hin', ho4⟩
                    have hout' : OutW w4 B 8 a1 A O := Four.only hout3 ho4 (by simp; omega)
                    have hb' := ho4.to_below hbe3 hbe3.size (by simp; omega)
                    simp only at hin' hr4
                    obtain ⟨ad4, cap4, hv4, hcells4⟩ := hr4.at
                    rw [hv4]
                    clear hv4 hr4 ho4 hout3 hin3 hbe3 hcell K29 e3
                    go_wp2_with fail
                    go_loopw [13, 112] (fun c i wx => wx = w4 ∧ ∃ q : Nat, q ≤ r1.length ∧ i = .int .i64 q ∧ c = .int .i64 ((V + q : Nat) : Int)) (fun _ i _ => r1.length - (intOf i).toNat)
                    case atStart => exact ⟨rfl, 0, by omega, rfl, by simp⟩
                    case round =>
                      obtain ⟨rfl, q, hq, rfl, rfl⟩ := hrel
                      by_cases hlt4 : q < r1.length
                      · obtain ⟨g4, rfl, hc4⟩ := hcells4 q hlt4
                        have hval := HY.out.2 q hlt4
                        rw [hval] at hc4
                        have eVq : (V : Int) + q = ((V + q : Nat) : Int) := by omega
                        rw [eVq] at hc4
                        have hVq : (0 : Int) ≤ ((V + q : Nat) : Int) := by omega
                        have hVq2 : ((V + q : Nat) : Int) ≤ 5000 := by omega
                        clear hval eVq
                        generalize hx : V + q = x at *
                        have HXX := Lib.hid hx
                        clear hx
                        go_wp2
                        go_roundw
                        case rel => exact ⟨by first | rfl | trivial, q + 1, by omega, by go_num, num_next HXX.out⟩
                        case measure => simp [intOf]; omega
                      · obtain rfl : q = r1.length := by omega
                        have hVV : ((V + r1.length : Nat) : Int) = (V' : Int) := by have := HY.out.1; omega
                        rw [hVV]
                        clear hlt4 hVV hcells4
                        go_wp2_with fail
                        generalize hA' : A = A' at *
                        generalize hO' : O = O' at *
                        generalize f2 = f' at *
                        generalize rS = S' at *
                        clear hA' hO'
                        have hVOn : V' ≤ O' := hid'.out.2.2.2.2.1
                        have hVO : decide (O' < V') = false := by simp; omega
                        have hV0 : (0 : Int) ≤ (V' : Int) := by omega
                        have hVb : (V' : Int) ≤ 1000 := by have := hid'.out.2.2.2.2.2.2.2; omega
                        have wt : (V' : Int).tmod 8 = (V' : Int) % 8 := Int.tmod_eq_emod_of_nonneg hV0
                        have wt2 : IntKind.i64.wrap ((V' : Int) % 8) = (V' : Int) % 8 := IntWalk.i64_in _ (by omega)
                        go_quiet (first | (go_at_call 31; exact vr31q hin' _))
                        clear wt wt2
                        go_wp2
                        go_roundw
                        case rel => exact ⟨j + 1, A', O', V', f', S', by omega, by go_num, rfl, rfl, Four.drewN hout' nq, hin'.drewN nq, hid', below_drewN hb' nq⟩
                        case measure => simp [intOf]; omega
              · have hout1 : OutW (wr.alloc (.cells #[.int .i64 2, .int .i64 sa] 64)) B 8 a1 A O := Four.only hout ((Only.refl [] wr).alloc _) (by simp)
                have hin1 := hin.only ((Only.refl [] wr).alloc (.cells #[.int .i64 2, .int .i64 sa] 64)) (by simp) (by simp)
                have hb1 := hb.alloc hbsz (.cells #[.int .i64 2, .int .i64 sa] 64)
                have hT := hid.out
                obtain ⟨_, _, _, hx1, hx2, hx3, _, hx4⟩ := hid.out
                have hak : akR 8 A O ((V : Int) % 8) = ((V : Int) - A, 0, V) := by
                  have hf := far_open (m := 8) (A := A) (O := V) (Or.inl rfl) hx1 (by omega)
                  unfold akR
                  rw [if_neg (by simp [ok1B, inB, modB]; omega), hf, if_neg (by omega)]
                  have e : A + ((V : Int) - A).toNat = V := by omega
                  rw [e]
                have K1 := acks41 B 8 a1 ((V : Int) % 8) A O _ hout1 (Or.inl rfl) (by omega) (by omega)
                rw [hak] at K1
                have K := Lib.hid K1
                have hid' : Hid (Thr 8 a1 (j + 1) V O V f S) := Thr.acked hT (by omega)
                have H31 := Lib.hid (vr31 (B + 1 + 1) (B + 1) 8 a1 ((V : Int) % 8) S _ hin1)
                clear K1 hT hid hak hx1 hx2 hx3 hx4
                go_wp2_with fail
                refine H31.out.mono ?_
                rintro e w3 ⟨rfl, rfl⟩
                go_wp2_with fail
                refine K.out.mono ?_
                rintro e w4 ⟨rfl, hout', ho4⟩
                have hin' := hin1.only ho4 (by simp; omega) (by simp)
                have hb' := ho4.to_below hb1 hb1.size (by simp; omega)
                simp only at hout'
                clear hout hin hb hout1 hin1 hb1 ho4 K H31
                go_wp2_with fail
                generalize hA' : V = A' at hout'
                generalize hO' : O = O' at *
                generalize f = f' at *
                generalize S = S' at *
                obtain ⟨V', hV'⟩ : ∃ V', V' = V := ⟨_, rfl⟩
                subst hA'
                subst hV'
                have hVOn : V' ≤ O' := hid'.out.2.2.2.2.1
                have hVO : decide (O' < V') = false := by simp; omega
                have hV0 : (0 : Int) ≤ (V' : Int) := by omega
                have hVb : (V' : Int) ≤ 1000 := by have := hid'.out.2.2.2.2.2.2.2; omega
                have wt : (V' : Int).tmod 8 = (V' : Int) % 8 := Int.tmod_eq_emod_of_nonneg hV0
                have wt2 : IntKind.i64.wrap ((V' : Int) % 8) = (V' : Int) % 8 := IntWalk.i64_in _ (by omega)
                go_quiet (first | (go_at_call 31; exact vr31q hin' _))
                clear wt wt2
                go_wp2
                go_roundw
                case rel => exact ⟨j + 1, V', O', V', f', S', by omega, by go_num, rfl, rfl, Four.drewN hout' nq, hin'.drewN nq, hid', below_drewN hb' nq⟩
                case measure => simp [intOf]; omega
              · have m0 : (sk == 0) = false := by simpa using n0
                have m1 : (sk == 1) = false := by simpa using n1
                have m2 : (sk == 2) = false := by simpa using n2
                clear n0 n1 n2
                go_wp2_with fail
                have hout' : OutW (wr.alloc (.cells #[.int .i64 sk, .int .i64 sa] 64)) B 8 a1 A O := Four.only hout ((Only.refl [] wr).alloc _) (by simp)
                have hin' := hin.only ((Only.refl [] wr).alloc (.cells #[.int .i64 sk, .int .i64 sa] 64)) (by simp) (by simp)
                have hb' := hb.alloc hbsz (.cells #[.int .i64 sk, .int .i64 sa] 64)
                have hid' : Hid (Thr 8 a1 (j + 1) A O V f S) := Thr.more hid.out (by omega)
                generalize wr.alloc (.cells #[.int .i64 sk, .int .i64 sa] 64) = w4 at *
                clear hout hin hb hid
                generalize hA' : A = A' at *
                generalize hO' : O = O' at *
                generalize hV' : V = V' at *
                generalize f = f' at *
                generalize S = S' at *
                clear hA' hO' hV'
                have hVOn : V' ≤ O' := hid'.out.2.2.2.2.1
                have hVO : decide (O' < V') = false := by simp; omega
                have hV0 : (0 : Int) ≤ (V' : Int) := by omega
                have hVb : (V' : Int) ≤ 1000 := by have := hid'.out.2.2.2.2.2.2.2; omega
                have wt : (V' : Int).tmod 8 = (V' : Int) % 8 := Int.tmod_eq_emod_of_nonneg hV0
                have wt2 : IntKind.i64.wrap ((V' : Int) % 8) = (V' : Int) % 8 := IntWalk.i64_in _ (by omega)
                go_quiet (first | (go_at_call 31; exact vr31q hin' _))
                clear wt wt2
                go_wp2
                go_roundw
                case rel => exact ⟨j + 1, A', O', V', f', S', by omega, by go_num, rfl, rfl, Four.drewN hout' nq, hin'.drewN nq, hid', below_drewN hb' nq⟩
                case measure => simp [intOf]; omega
            · go_wp2
              go_ret
              exact ⟨rfl, hb⟩
  · by_cases hk : a1 < 1
    · go_enter Try.func10, Try.ntmps10
      go_wp2_with (go_at_call 23; refine (awake23 _).mono ?_; rintro e w1 ⟨rfl, hb1⟩)
      go_ret
      exact ⟨rfl, hb1⟩
    · by_cases hk2 : 64 < a1
      · go_enter Try.func10, Try.ntmps10
        go_wp2_with (go_at_call 23; refine (awake23 _).mono ?_; rintro e w1 ⟨rfl, hb1⟩)
        go_ret
        exact ⟨rfl, hb1⟩
      · by_cases hl : 400 < len2
        · go_enter Try.func10, Try.ntmps10
          go_wp2_with (go_at_call 23; refine (awake23 _).mono ?_; rintro e w1 ⟨rfl, hb1⟩)
          go_ret
          exact ⟨rfl, hb1⟩
        · go_enter Try.func10, Try.ntmps10
          go_wp2_with (first
            | (go_at_call 23; refine (awake23 _).mono ?_; rintro e w1 ⟨rfl, hb1⟩)
            | (go_at_call 38; refine (newOut38 128 a1 _ (by decide) (by omega) (by omega)).mono ?_; rintro e w2 ⟨rfl, rfl⟩)
            | (go_at_call 28; refine (newIn28 128 a1 _ (by decide) (by omega) (by omega)).mono ?_; rintro e w3 ⟨rfl, hin, hb3⟩))
          have hOut : OutW w3 w1.heap.size 128 a1 0 0 := by
            have h1 : OutW (w1.alloc (.cells #[.int .i64 128, .int .i64 a1, .int .i64 0, .int .i64 0] 81)) w1.heap.size 128 a1 0 0 := by
              unfold OutW Four
              simpa using heap_new w1 (.cells #[.int .i64 128, .int .i64 a1, .int .i64 0, .int .i64 0] 81)
            exact Four.below h1 hb3
          have s1 := hb1.size
          have hbe : Below w.heap.size w w3 := (hb1.alloc s1 (.cells #[.int .i64 128, .int .i64 a1, .int .i64 0, .int .i64 0] 81)).trans (hb3.mono (by simp; omega))
          simp only [World.size_alloc] at hin
          clear hb3 hb1
          generalize w1.heap.size = B at *
          have HT := Lib.hid (Thr.start 128 a1 (by omega))
          go_loopw [12, 13, 62] (fun s12 s13 i wr => ∃ (j A O V : Nat) (f : Nat → Bool) (S : List Int), j ≤ len2 ∧ i = .int .i64 j ∧ s12 = .int .i64 O ∧ s13 = .int .i64 V ∧ OutW wr B 128 a1 A O ∧ InW wr (B + 1 + 1) (B + 1) 128 a1 ((V : Int) % 128) S ∧ Hid (Thr 128 a1 j A O V f S) ∧ Below w.heap.size w wr) (fun _ _ i _ => len2 - (intOf i).toNat)
          case atStart => exact ⟨0, 0, 0, 0, _, _, by omega, rfl, rfl, rfl, hOut, by simpa using hin, HT.out, hbe⟩
          case round =>
            clear hOut hin hbe HT
            obtain ⟨j, A, O, V, f, S, hj, rfl, rfl, rfl, hout, hin, hid, hb⟩ := hrel
            by_cases hlt : j < len2
            · obtain ⟨b, off, rfl, hbl, hc0, hc1, hw0, hw1, hml⟩ := hrow.at j hlt
              have hd0 := (hb.cell (p := ⟨b, off + j * 2, none⟩) hbl).trans hc0
              have hd1 := (hb.cell (p := ⟨b, off + j * 2 + 1, none⟩) hbl).trans hc1
              have hbK := bounds_i64 hw0
              have hbA := bounds_i64 hw1
              clear hc0 hc1 hw0 hw1
              generalize (z2 j).1 = sk at *
              generalize (z2 j).2 = sa at *
              unfold maxLen at hml
              have hcase : sk = 0 ∨ sk = 1 ∨ sk = 2 ∨ (sk ≠ 0 ∧ sk ≠ 1 ∧ sk ≠ 2) := by omega
              have hbsz := hb.size
              rcases hcase with rfl | rfl | rfl | ⟨n0, n1, n2⟩
              · have hout1 : OutW (wr.alloc (.cells #[.int .i64 0, .int .i64 sa] 64)) B 128 a1 A O := Four.only hout ((Only.refl [] wr).alloc _) (by simp)
                have hin1 := hin.only ((Only.refl [] wr).alloc (.cells #[.int .i64 0, .int .i64 sa] 64)) (by simp) (by simp)
                have hb1 := hb.alloc hbsz (.cells #[.int .i64 0, .int .i64 sa] 64)
                have hT := hid.out
                obtain ⟨_, _, _, hx1, hx2, hx3, _, hx4⟩ := hid.out
                by_cases hfull : (O : Int) - A = a1
                · have K1 := next39 B 128 a1 A O _ hout1 (Or.inr rfl) (by omega) hT.2.2.2.2.2.1 (by omega)
                  rw [nxR, if_pos hfull] at K1
                  have K := Lib.hid K1
                  have hid' : Hid (Thr 128 a1 (j + 1) A O V f S) := Thr.more hT (by omega)
                  clear hfull K1 hT hid hx1 hx2 hx3 hx4
                  go_wp2_with fail
                  refine K.out.mono ?_
                  rintro e w4 ⟨rfl, hout', ho4⟩
                  have hin' := hin1.only ho4 (by simp; omega) (by simp)
                  have hb' := ho4.to_below hb1 hb1.size (by simp; omega)
                  simp only at hout'
                  clear hout hin hb hout1 hin1 hb1 ho4 K
                  go_wp2_with fail
                  generalize hA' : A = A' at *
                  generalize hO' : O = O' at *
                  generalize hV' : V = V' at *
                  generalize f = f' at *
                  generalize S = S' at *
                  clear hA' hO' hV'
                  have hVOn : V' ≤ O' := hid'.out.2.2.2.2.1
                  have hVO : decide (O' < V') = false := by simp; omega
                  have hV0 : (0 : Int) ≤ (V' : Int) := by omega
                  have hVb : (V' : Int) ≤ 1000 := by have := hid'.out.2.2.2.2.2.2.2; omega
                  have wt : (V' : Int).tmod 128 = (V' : Int) % 128 := Int.tmod_eq_emod_of_nonneg hV0
                  have wt2 : IntKind.i64.wrap ((V' : Int) % 128) = (V' : Int) % 128 := IntWalk.i64_in _ (by omega)
                  go_quiet (first | (go_at_call 31; exact vr31q hin' _))
                  clear wt wt2
                  go_wp2
                  go_roundw
                  case rel => exact ⟨j + 1, A', O', V', f', S', by omega, by go_num, rfl, rfl, Four.drewN hout' nq, hin'.drewN nq, hid', below_drewN hb' nq⟩
                  case measure => simp [intOf]; omega
                · have K1 := next39 B 128 a1 A O _ hout1 (Or.inr rfl) (by omega) hT.2.2.2.2.2.1 (by omega)
                  rw [nxR, if_neg hfull] at K1
                  have K := Lib.hid K1
                  have hid' : Hid (Thr 128 a1 (j + 1) A (O + 1) V f S) := Thr.opened hT (by omega)
                  have hOb : (O : Int) ≤ 1000 := by have := hT.2.2.2.2.2.2.2; omega
                  clear hfull K1 hT hid hx1 hx2 hx3 hx4
                  go_wp2_with fail
                  refine K.out.mono ?_
                  rintro e w4 ⟨rfl, hout', ho4⟩
                  have hin' := hin1.only ho4 (by simp; omega) (by simp)
                  have hb' := ho4.to_below hb1 hb1.size (by simp; omega)
                  simp only at hout'
                  clear hout hin hb hout1 hin1 hb1 ho4 K
                  go_wp2_with fail
                  have eO : (O : Int) + 1 = ((O + 1 : Nat) : Int) := by omega
                  rw [eO]
                  generalize hA' : A = A' at *
                  generalize hO' : O + 1 = O' at *
                  generalize hV' : V = V' at *
                  generalize f = f' at *
                  generalize S = S' at *
                  clear hA' hO' hV' eO hOb
                  have hVOn : V' ≤ O' := hid'.out.2.2.2.2.1
                  have hVO : decide (O' < V') = false := by simp; omega
                  have hV0 : (0 : Int) ≤ (V' : Int) := by omega
                  have hVb : (V' : Int) ≤ 1000 := by have := hid'.out.2.2.2.2.2.2.2; omega
                  have wt : (V' : Int).tmod 128 = (V' : Int) % 128 := Int.tmod_eq_emod_of_nonneg hV0
                  have wt2 : IntKind.i64.wrap ((V' : Int) % 128) = (V' : Int) % 128 := IntWalk.i64_in _ (by omega)
                  go_quiet (first | (go_at_call 31; exact vr31q hin' _))
                  clear wt wt2
                  go_wp2
                  go_roundw
                  case rel => exact ⟨j + 1, A', O', V', f', S', by omega, by go_num, rfl, rfl, Four.drewN hout' nq, hin'.drewN nq, hid', below_drewN hb' nq⟩
                  case measure => simp [intOf]; omega
              · have hout1 : OutW (wr.alloc (.cells #[.int .i64 1, .int .i64 sa] 64)) B 128 a1 A O := Four.only hout ((Only.refl [] wr).alloc _) (by simp)
                have hin1 := hin.only ((Only.refl [] wr).alloc (.cells #[.int .i64 1, .int .i64 sa] 64)) (by simp) (by simp)
                have hb1 := hb.alloc hbsz (.cells #[.int .i64 1, .int .i64 sa] 64)
                obtain ⟨_, _, _, hx1, hx2, hx3, _, hx4⟩ := hid.out
                have K := Lib.hid (open40 B 128 a1 A O _ hout1 (Or.inr rfl) (by omega) (by omega))
                have e0 : (wr.alloc (.cells #[.int .i64 1, .int .i64 sa] 64)).cell? ⟨wr.heap.size, 1, none⟩ = some (.int .i64 sa) := nc21 wr _ _ _
                have hsz1 : wr.heap.size < (wr.alloc (.cells #[.int .i64 1, .int .i64 sa] 64)).heap.size := by simp
                go_wp2_with fail
                refine K.out.mono ?_
                rintro e w3 ⟨v3, rfl, hr3, hb3⟩
                have hout3 : OutW w3 B 128 a1 A O := Four.below hout1 hb3
                have hin3 := hin1.below hb3
                have e3 := (hb3.cell (p := ⟨wr.heap.size, 1, none⟩) hsz1).trans e0
                have hbe3 := hb1.trans (hb3.mono hb1.size)
                obtain ⟨ad, cap, hv, hcells⟩ := hr3.at
                rw [opn_len] at hv hcells
                rw [hv]
                clear hv hr3 hb3 hout1 hin1 hb1 K e0 hout hin hb
                by_cases hz : O - A = 0
                · rw [hz] at hcells ⊢
                  have hid' : Hid (Thr 128 a1 (j + 1) A O V f S) := Thr.more hid.out (by omega)
                  clear hz hx1 hx2 hx3 hx4 hid hcells
                  go_wp2_with fail
                  go_roundw
                  case rel => exact ⟨j + 1, A, O, V, f, S, by omega, by go_num, rfl, rfl, hout3, hin3, hid', hbe3⟩
                  case measure => simp [intOf]; omega
                · obtain ⟨t, ht, htv⟩ : ∃ t : Nat, t < O - A ∧ (((sa < 0 ∨ ((O - A : Nat) : Int) ≤ sa) ∧ t = 0) ∨ (0 ≤ sa ∧ sa < ((O - A : Nat) : Int) ∧ sa = t)) := by
                    by_cases q : 0 ≤ sa ∧ sa < ((O - A : Nat) : Int)
                    · exact ⟨sa.toNat, by omega, Or.inr ⟨q.1, q.2, by omega⟩⟩
                    · exact ⟨0, by omega, Or.inl ⟨by omega, rfl⟩⟩
                  obtain ⟨g, rfl, hcell⟩ := hcells t ht
                  have hgl : (opn 128 A (O - A)).getD t 0 = ((A + t : Nat) : Int) % 128 := opn_getD _ _ _ _ ht
                  rw [hgl] at hcell
                  obtain ⟨V2, f2, y1, y2, y3, y4, y5, y6, y7, y8⟩ := tk_through (m := 128) (k := a1) (Or.inr rfl) (by omega) (by omega) V A O (A + t) f S hid.out.1 hid.out.2.1 hid.out.2.2.1 hx1 hx2 hx3 hid.out.2.2.2.2.2.2.1 (by omega) (by omega)
                  have hnsw : Wf (((A + t : Nat) : Int) % 128) := wf_small (Int.emod_nonneg _ (by omega)) (by have := Int.emod_lt_of_pos ((A + t : Nat) : Int) (by omega : (0 : Int) < 128); omega)
                  have hSl : S.length ≤ 128 := by rw [hid.out.1.len]; exact cnt_le f 128
                  have K29 := Lib.hid (take29 (B + 1 + 1) (B + 1) 128 a1 ((V : Int) % 128) (((A + t : Nat) : Int) % 128) S w3 hin3 hnsw (Or.inr rfl) (Int.emod_nonneg _ (by omega)) (Int.emod_lt_of_pos _ (by omega)) (by omega))
                  have htl := tk_len 128 a1 ((V : Int) % 128) S (((A + t : Nat) : Int) % 128)
                  generalize tk 128 a1 ((V : Int) % 128) S (((A + t : Nat) : Int) % 128) = r at *
                  obtain ⟨r1, en, rv, rS⟩ := r
                  simp only at y1 y2 y3 y5 y8 htl K29
                  subst y1
                  obtain ⟨V', rfl⟩ : ∃ V' : Nat, V2 = (V' : Int) := ⟨V + r1.length, by omega⟩
                  have hid' : Hid (Thr 128 a1 (j + 1) A O V' f2 rS) := ⟨y2, y3, y4, by omega, by omega, hx3, y7, by omega⟩
                  have HY := Lib.hid (And.intro y5 y8)
                  have hlr : r1.length ≤ 200 := by omega
                  have hVb : V ≤ 1000 := by omega
                  have HX := Lib.hid (And.intro hx1 hx2)
                  have hcs : (O - A : Nat) ≤ 1000 := by omega
                  have hz' : 0 < O - A := by omega
                  clear hx1 hx2 hx3 hx4 hid y2 y3 y4 y5 y6 y7 y8 hcells hgl hnsw hSl htl hz
                  generalize ((A + t : Nat) : Int) % 128 = ns at *
                  generalize hN : O - A = N at *
                  clear hN
                  rcases htv with ⟨hsa, rfl⟩ | ⟨hs0, hs1, rfl⟩
                  · by_cases hneg : sa < 0
                    · clear hsa
                      go_wp2_with fail
                      refine K29.out.mono ?_
                      rintro e w4 ⟨v4, rfl, hr4, hin', ho4⟩
                      have hout' : OutW w4 B 128 a1 A O := Four.only hout3 ho4 (by simp; omega)
                      have hb' := ho4.to_below hbe3 hbe3.size (by simp; omega)
                      simp only at hin' hr4
                      obtain ⟨ad4, cap4, hv4, hcells4⟩ := hr4.at
                      rw [hv4]
                      clear hv4 hr4 ho4 hout3 hin3 hbe3 hcell K29 e3
                      go_wp2_with fail
                      go_loopw [13, 112] (fun c i wx => wx = w4 ∧ ∃ q : Nat, q ≤ r1.length ∧ i = .int .i64 q ∧ c = .int .i64 ((V + q : Nat) : Int)) (fun _ i _ => r1.length - (intOf i).toNat)
                      case atStart => exact ⟨rfl, 0, by omega, rfl, by simp⟩
                      case round =>
                        obtain ⟨rfl, q, hq, rfl, rfl⟩ := hrel
                        by_cases hlt4 : q < r1.length
                        · obtain ⟨g4, rfl, hc4⟩ := hcells4 q hlt4
                          have hval := HY.out.2 q hlt4
                          rw [hval] at hc4
                          have eVq : (V : Int) + q = ((V + q : Nat) : Int) := by omega
                          rw [eVq] at hc4
                          have hVq : (0 : Int) ≤ ((V + q : Nat) : Int) := by omega
                          have hVq2 : ((V + q : Nat) : Int) ≤ 5000 := by omega
                          clear hval eVq
                          generalize hx : V + q = x at *
                          have HXX := Lib.hid hx
                          clear hx
                          go_wp2
                          go_roundw
                          case rel => exact ⟨by first | rfl | trivial, q + 1, by omega, by go_num, num_next HXX.out⟩
                          case measure => simp [intOf]; omega
                        · obtain rfl : q = r1.length := by omega
                          have hVV : ((V + r1.length : Nat) : Int) = (V' : Int) := by have := HY.out.1; omega
                          rw [hVV]
                          clear hlt4 hVV hcells4
                          go_wp2_with fail
                          generalize hA' : A = A' at *
                          generalize hO' : O = O' at *
                          generalize f2 = f' at *
                          generalize rS = S' at *
                          clear hA' hO'
                          have hVOn : V' ≤ O' := hid'.out.2.2.2.2.1
                          have hVO : decide (O' < V') = false := by simp; omega
                          have hV0 : (0 : Int) ≤ (V' : Int) := by omega
                          have hVb : (V' : Int) ≤ 1000 := by have := hid'.out.2.2.2.2.2.2.2; omega
                          have wt : (V' : Int).tmod 128 = (V' : Int) % 128 := Int.tmod_eq_emod_of_nonneg hV0
                          have wt2 : IntKind.i64.wrap ((V' : Int) % 128) = (V' : Int) % 128 := IntWalk.i64_in _ (by omega)
                          go_quiet (first | (go_at_call 31; exact vr31q hin' _))
                          clear wt wt2
                          go_wp2
                          go_roundw
                          case rel => exact ⟨j + 1, A', O', V', f', S', by omega, by go_num, rfl, rfl, Four.drewN hout' nq, hin'.drewN nq, hid', below_drewN hb' nq⟩
                          case measure => simp [intOf]; omega
                    · have hge : ((N : Nat) : Int) ≤ sa := by omega
                      clear hsa
                      go_wp2_with fail
                      refine K29.out.mono ?_
                      rintro e w4 ⟨v4, rfl, hr4, hin', ho4⟩
                      have hout' : OutW w4 B 128 a1 A O := Four.only hout3 ho4 (by simp; omega)
                      have hb' := ho4.to_below hbe3 hbe3.size (by simp; omega)
                      simp only at hin' hr4
                      obtain ⟨ad4, cap4, hv4, hcells4⟩ := hr4.at
                      rw [hv4]
                      clear hv4 hr4 ho4 hout3 hin3 hbe3 hcell K29 e3
                      go_wp2_with fail
                      go_loopw [13, 112] (fun c i wx => wx = w4 ∧ ∃ q : Nat, q ≤ r1.length ∧ i = .int .i64 q ∧ c = .int .i64 ((V + q : Nat) : Int)) (fun _ i _ => r1.length - (intOf i).toNat)
                      case atStart => exact ⟨rfl, 0, by omega, rfl, by simp⟩
                      case round =>
                        obtain ⟨rfl, q, hq, rfl, rfl⟩ := hrel
                        by_cases hlt4 : q < r1.length
                        · obtain ⟨g4, rfl, hc4⟩ := hcells4 q hlt4
                          have hval := HY.out.2 q hlt4
                          rw [hval] at hc4
                          have eVq : (V : Int) + q = ((V + q : Nat) : Int) := by omega
                          rw [eVq] at hc4
                          have hVq : (0 : Int) ≤ ((V + q : Nat) : Int) := by omega
                          have hVq2 : ((V + q : Nat) : Int) ≤ 5000 := by omega
                          clear hval eVq
                          generalize hx : V + q = x at *
                          have HXX := Lib.hid hx
                          clear hx
                          go_wp2
                          go_roundw
                          case rel => exact ⟨by first | rfl | trivial, q + 1, by omega, by go_num, num_next HXX.out⟩
                          case measure => simp [intOf]; omega
                        · obtain rfl : q = r1.length := by omega
                          have hVV : ((V + r1.length : Nat) : Int) = (V' : Int) := by have := HY.out.1; omega
                          rw [hVV]
                          clear hlt4 hVV hcells4
                          go_wp2_with fail
                          generalize hA' : A = A' at *
                          generalize hO' : O = O' at *
                          generalize f2 = f' at *
                          generalize rS = S' at *
                          clear hA' hO'
                          have hVOn : V' ≤ O' := hid'.out.2.2.2.2.1
                          have hVO : decide (O' < V') = false := by simp; omega
                          have hV0 : (0 : Int) ≤ (V' : Int) := by omega
                          have hVb : (V' : Int) ≤ 1000 := by have := hid'.out.2.2.2.2.2.2.2; omega
                          have wt : (V' : Int).tmod 128 = (V' : Int) % 128 := Int.tmod_eq_emod_of_nonneg hV0
                          have wt2 : IntKind.i64.wrap ((V' : Int) % 128) = (V' : Int) % 128 := IntWalk.i64_in _ (by omega)
                          go_quiet (first | (go_at_call 31; exact vr31q hin' _))
                          clear wt wt2
                          go_wp2
                          go_roundw
                          case rel => exact ⟨j + 1, A', O', V', f', S', by omega, by go_num, rfl, rfl, Four.drewN hout' nq, hin'.drewN nq, hid', below_drewN hb' nq⟩
                          case measure => simp [intOf]; omega
                  · have htN : t < N := ht
                    go_wp2_with fail
                    refine K29.out.mono ?_
                    rintro e w4 ⟨v4, rfl, hr4, hin', ho4⟩
                    have hout' : OutW w4 B 128 a1 A O := Four.only hout3 ho4 (by simp; omega)
                    have hb' := ho4.to_below hbe3 hbe3.size (by simp; omega)
                    simp only at hin' hr4
                    obtain ⟨ad4, cap4, hv4, hcells4⟩ := hr4.at
                    rw [hv4]
                    clear hv4 hr4 ho4 hout3 hin3 hbe3 hcell K29 e3
                    go_wp2_with fail
                    go_loopw [13, 112] (fun c i wx => wx = w4 ∧ ∃ q : Nat, q ≤ r1.length ∧ i = .int .i64 q ∧ c = .int .i64 ((V + q : Nat) : Int)) (fun _ i _ => r1.length - (intOf i).toNat)
                    case atStart => exact ⟨rfl, 0, by omega, rfl, by simp⟩
                    case round =>
                      obtain ⟨rfl, q, hq, rfl, rfl⟩ := hrel
                      by_cases hlt4 : q < r1.length
                      · obtain ⟨g4, rfl, hc4⟩ := hcells4 q hlt4
                        have hval := HY.out.2 q hlt4
                        rw [hval] at hc4
                        have eVq : (V : Int) + q = ((V + q : Nat) : Int) := by omega
                        rw [eVq] at hc4
                        have hVq : (0 : Int) ≤ ((V + q : Nat) : Int) := by omega
                        have hVq2 : ((V + q : Nat) : Int) ≤ 5000 := by omega
                        clear hval eVq
                        generalize hx : V + q = x at *
                        have HXX := Lib.hid hx
                        clear hx
                        go_wp2
                        go_roundw
                        case rel => exact ⟨by first | rfl | trivial, q + 1, by omega, by go_num, num_next HXX.out⟩
                        case measure => simp [intOf]; omega
                      · obtain rfl : q = r1.length := by omega
                        have hVV : ((V + r1.length : Nat) : Int) = (V' : Int) := by have := HY.out.1; omega
                        rw [hVV]
                        clear hlt4 hVV hcells4
                        go_wp2_with fail
                        generalize hA' : A = A' at *
                        generalize hO' : O = O' at *
                        generalize f2 = f' at *
                        generalize rS = S' at *
                        clear hA' hO'
                        have hVOn : V' ≤ O' := hid'.out.2.2.2.2.1
                        have hVO : decide (O' < V') = false := by simp; omega
                        have hV0 : (0 : Int) ≤ (V' : Int) := by omega
                        have hVb : (V' : Int) ≤ 1000 := by have := hid'.out.2.2.2.2.2.2.2; omega
                        have wt : (V' : Int).tmod 128 = (V' : Int) % 128 := Int.tmod_eq_emod_of_nonneg hV0
                        have wt2 : IntKind.i64.wrap ((V' : Int) % 128) = (V' : Int) % 128 := IntWalk.i64_in _ (by omega)
                        go_quiet (first | (go_at_call 31; exact vr31q hin' _))
                        clear wt wt2
                        go_wp2
                        go_roundw
                        case rel => exact ⟨j + 1, A', O', V', f', S', by omega, by go_num, rfl, rfl, Four.drewN hout' nq, hin'.drewN nq, hid', below_drewN hb' nq⟩
                        case measure => simp [intOf]; omega
              · have hout1 : OutW (wr.alloc (.cells #[.int .i64 2, .int .i64 sa] 64)) B 128 a1 A O := Four.only hout ((Only.refl [] wr).alloc _) (by simp)
                have hin1 := hin.only ((Only.refl [] wr).alloc (.cells #[.int .i64 2, .int .i64 sa] 64)) (by simp) (by simp)
                have hb1 := hb.alloc hbsz (.cells #[.int .i64 2, .int .i64 sa] 64)
                have hT := hid.out
                obtain ⟨_, _, _, hx1, hx2, hx3, _, hx4⟩ := hid.out
                have hak : akR 128 A O ((V : Int) % 128) = ((V : Int) - A, 0, V) := by
                  have hf := far_open (m := 128) (A := A) (O := V) (Or.inr rfl) hx1 (by omega)
                  unfold akR
                  rw [if_neg (by simp [ok1B, inB, modB]; omega), hf, if_neg (by omega)]
                  have e : A + ((V : Int) - A).toNat = V := by omega
                  rw [e]
                have K1 := acks41 B 128 a1 ((V : Int) % 128) A O _ hout1 (Or.inr rfl) (by omega) (by omega)
                rw [hak] at K1
                have K := Lib.hid K1
                have hid' : Hid (Thr 128 a1 (j + 1) V O V f S) := Thr.acked hT (by omega)
                have H31 := Lib.hid (vr31 (B + 1 + 1) (B + 1) 128 a1 ((V : Int) % 128) S _ hin1)
                clear K1 hT hid hak hx1 hx2 hx3 hx4
                go_wp2_with fail
                refine H31.out.mono ?_
                rintro e w3 ⟨rfl, rfl⟩
                go_wp2_with fail
                refine K.out.mono ?_
                rintro e w4 ⟨rfl, hout', ho4⟩
                have hin' := hin1.only ho4 (by simp; omega) (by simp)
                have hb' := ho4.to_below hb1 hb1.size (by simp; omega)
                simp only at hout'
                clear hout hin hb hout1 hin1 hb1 ho4 K H31
                go_wp2_with fail
                generalize hA' : V = A' at hout'
                generalize hO' : O = O' at *
                generalize f = f' at *
                generalize S = S' at *
                obtain ⟨V', hV'⟩ : ∃ V', V' = V := ⟨_, rfl⟩
                subst hA'
                subst hV'
                have hVOn : V' ≤ O' := hid'.out.2.2.2.2.1
                have hVO : decide (O' < V') = false := by simp; omega
                have hV0 : (0 : Int) ≤ (V' : Int) := by omega
                have hVb : (V' : Int) ≤ 1000 := by have := hid'.out.2.2.2.2.2.2.2; omega
                have wt : (V' : Int).tmod 128 = (V' : Int) % 128 := Int.tmod_eq_emod_of_nonneg hV0
                have wt2 : IntKind.i64.wrap ((V' : Int) % 128) = (V' : Int) % 128 := IntWalk.i64_in _ (by omega)
                go_quiet (first | (go_at_call 31; exact vr31q hin' _))
                clear wt wt2
                go_wp2
                go_roundw
                case rel => exact ⟨j + 1, V', O', V', f', S', by omega, by go_num, rfl, rfl, Four.drewN hout' nq, hin'.drewN nq, hid', below_drewN hb' nq⟩
                case measure => simp [intOf]; omega
              · have m0 : (sk == 0) = false := by simpa using n0
                have m1 : (sk == 1) = false := by simpa using n1
                have m2 : (sk == 2) = false := by simpa using n2
                clear n0 n1 n2
                go_wp2_with fail
                have hout' : OutW (wr.alloc (.cells #[.int .i64 sk, .int .i64 sa] 64)) B 128 a1 A O := Four.only hout ((Only.refl [] wr).alloc _) (by simp)
                have hin' := hin.only ((Only.refl [] wr).alloc (.cells #[.int .i64 sk, .int .i64 sa] 64)) (by simp) (by simp)
                have hb' := hb.alloc hbsz (.cells #[.int .i64 sk, .int .i64 sa] 64)
                have hid' : Hid (Thr 128 a1 (j + 1) A O V f S) := Thr.more hid.out (by omega)
                generalize wr.alloc (.cells #[.int .i64 sk, .int .i64 sa] 64) = w4 at *
                clear hout hin hb hid
                generalize hA' : A = A' at *
                generalize hO' : O = O' at *
                generalize hV' : V = V' at *
                generalize f = f' at *
                generalize S = S' at *
                clear hA' hO' hV'
                have hVOn : V' ≤ O' := hid'.out.2.2.2.2.1
                have hVO : decide (O' < V') = false := by simp; omega
                have hV0 : (0 : Int) ≤ (V' : Int) := by omega
                have hVb : (V' : Int) ≤ 1000 := by have := hid'.out.2.2.2.2.2.2.2; omega
                have wt : (V' : Int).tmod 128 = (V' : Int) % 128 := Int.tmod_eq_emod_of_nonneg hV0
                have wt2 : IntKind.i64.wrap ((V' : Int) % 128) = (V' : Int) % 128 := IntWalk.i64_in _ (by omega)
                go_quiet (first | (go_at_call 31; exact vr31q hin' _))
                clear wt wt2
                go_wp2
                go_roundw
                case rel => exact ⟨j + 1, A', O', V', f', S', by omega, by go_num, rfl, rfl, Four.drewN hout' nq, hin'.drewN nq, hid', below_drewN hb' nq⟩
                case measure => simp [intOf]; omega
            · go_wp2
              go_ret
              exact ⟨rfl, hb⟩

set_option maxRecDepth 100000 in
theorem lifted (os : Os) (started : os.Started) (H : Type) (enc : TypeId × Value → H) :
    ReturnsInHanded {} Try.checked os 10 .any (Rows.seqThroughSpec.pre6 enc Try.prog Try.f10 Rows.seqThroughRow.domain false) (Rows.seqThroughSpec.post enc Try.prog Try.f10 false true false false) := by
  refine returnsInHanded_of_change (C := Try.checked) own started (by kernel_rfl) Try.func10
    (ChangeSpec.witness6 (enc := enc) (C := Try.checked) false ⟨#[], #[.bool false, .int .i64 0, .slice none 0 0], []⟩ 8 (by kernel_rfl) (by kernel_rfl) (by kernel_rfl) (by kernel_rfl)) ?_
  intro W base args ds gs before hval0 hW hcnd _
  have hval : ∀ (j : Nat) t v, Try.f10.params[j]? = some t → args[j]? = some v → Value.okWide Try.prog W .any base t v := hval0
  have hW' := hW
  obtain ⟨p, q, hA0, hV, rfl, hfz, hnd⟩ := hW
  have hA : DataW.TrodAll enc Try.prog W 0 (fun _ => true) true Try.f10.params.toList args.toList ds p := hA0
  rw [Try.params10] at hA hval
  obtain ⟨v0, vs0, d0, ds0, p0, q0, hargs, rfl, rfl, h0, r0⟩ := trodAll_cons hA
  obtain ⟨v1, vs1, d1, ds1, p1, q1, rfl, rfl, rfl, h1, r1⟩ := trodAll_cons r0
  obtain ⟨v2, vs2, d2, ds2, p2, q2, rfl, rfl, rfl, h2, r2⟩ := trodAll_cons r1
  obtain ⟨rfl, rfl, rfl⟩ := trodAll_nil r2
  obtain rfl : args = #[v0, v1, v2] := by cases args; simp_all
  obtain ⟨rfl, rfl⟩ := trodVars_none hV
  obtain ⟨a0, rfl, rfl, rfl⟩ := open_bool Try.underlying4 (hval 0 4 v0 rfl rfl) h0
  obtain ⟨a1, rfl, rfl, rfl, w1⟩ := open_int Try.underlying3 (hval 1 3 v1 rfl rfl) h1
  obtain ⟨a2, len2, cap2, rfl⟩ := okWide_slice Try.underlying59 (hval 2 59 v2 rfl rfl)
  have k2 := h2
  have lt2 : ∀ x ∈ p2, x.block < W.heap.size := by obtain ⟨m, hm⟩ := k2; exact DataW.trod_lt m _ _ _ hm
  obtain ⟨z2, w2⟩ := open_steps h2
  clear hA0 hval0
  refine (walk a0 a1 a2 len2 cap2 z2 W w1 w2).mono fun e W' ⟨he, bel⟩ => ?_
  subst he
  exact ⟨_, rfl, _, _, _, [], _, [], hW', trodAll_mk1 (shut_bool Try.underlying4 _), (trodAll_cons_mk (shut_bool Try.underlying4 a0) (trodAll_cons_mk (shut_int Try.underlying3 w1) (trodAll_cons_mk (Below.trod laidOut (by kernel_rfl) (of_decide_eq_true (by kernel_rfl)) k2 bel lt2) trodAll_mk0))), rfl, bel.frame _, fun h => by cases h⟩

theorem over : Rows.seqThroughRow.holds Try.pinned (OpenSpec.ofChange Rows.seqThroughSpec) :=
  OpenClaim.holds_of_wide 10 Try.f10 rfl rfl rfl rfl rfl rfl rfl ⟨rfl, rfl, rfl, rfl, rfl⟩ rfl rfl rfl rfl rfl (by kernel_rfl) Try.func10 (by kernel_rfl)
    (of_decide_eq_true (by kernel_rfl)) (by unfold Func.isWrapper; first | (rw [if_pos (by decide +kernel)]; kernel_rfl) | (rw [if_neg (by decide +kernel)]; exact ⟨rfl, rfl⟩))
    (fun os started H enc _ => lifted os started H enc)

theorem proved : Rows.SeqThroughSaid := over
#print axioms proved
end Go.Proofs.Ytfloemimimkgaaa.seqThrough
