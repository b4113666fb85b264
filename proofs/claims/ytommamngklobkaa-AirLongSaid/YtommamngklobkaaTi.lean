/- A tick of the air (contract). No conditions but those that each theorem names. -/
import Derived.Test.YtommamngklobkaaTh
namespace Go.Proofs.Ytommamngklobkaa
open Go.RowKit
set_option linter.unusedVariables false
set_option maxRecDepth 100000 in
set_option maxHeartbeats 8000000 in
theorem tick17 {w : World} {d : Id} {S : List Int} {p : Int → Nat} {N : Nat} {B : Int → Bu} (h : AirW w d S p (fun _ => N) B) (hN : N ≤ 800000) (hd : ∀ x ∈ S, (B x).done ≤ 15) (hrd : ∀ x ∈ S, ∀ q, Ready (qBu q (watched S d.n x (B x)))) :
    Calls Try.prog 17 #[.pointer (some ⟨d.A, 0, none⟩)] w (TickP w d S p N B) := by
  have c1 := h.st.c1
  have hm := h.on
  have hK := h.st.lo.2.2.2.2.2.2
  have hrK : d.mo ≠ w.heap.size := by have := h.st.lo; omega
  have n16 := h.st.n16
  have H := Lib.hid h
  have HD := Lib.hid hd
  have HRD := Lib.hid hrd
  have hnil : ∀ (w : World) (r : Option Nat), (binOp .eql 77 (.map r) (.map none)).run Try.prog w = .ok (.bool r.isNone) w := fun w r => run_eql_map_nil w _ _ _ r Try.underlying77
  have hmm := @run_makeMap Try.prog
  clear h hd hrd
  go_enter Try.func17, Try.ntmps17
  go_wp2_with (at_range; refine wpList_range_on rfl _ rfl d.mo S p rfl hm ?_; intro w1 hr1 ho1 hz1)
  go_frame
  have hm1 := H.out.same ho1
  have hf1 : Fr d.K d.mo w w1 := Fr.of_only ho1 (by simp)
  clear hm hz1
  go_loopw [3] (fun _ wr => ∃ rem Bf, OnR wr d.mo w.heap.size S p rem ∧ AirW wr d S p (fun x => if rem x = true then N else N + 2 * d.n) Bf ∧ T1 S d.n B rem Bf ∧ Fr d.K d.mo w wr) (fun _ wr => wr.rangeLeft d.mo w.heap.size)
  case atStart => exact ⟨_, B, hr1, hm1.congr (fun x hx => by simp [hx]) (fun _ _ => rfl), fun x hx => by simp [hx], hf1⟩
  case round =>
    clear hr1 ho1 hm1 hf1 c1
    obtain ⟨rem, Bf, hr, ha, ht, hf⟩ := hrel
    go_wp2_with (at_next; refine wpList_next_on rfl _ rfl d.mo w.heap.size S p rem rfl hr ?_ ?_)
    · intro hdone
      have hq2 : ∀ x ∈ S, ∃ q, Bf x = qBu q (watched S d.n x (B x)) := fun x hx => by have := ht x hx; rw [hdone x] at this; simpa using this
      have ha2 := ha.congr (N' := fun _ => N + 2 * d.n) (B' := Bf) (fun x hx => by rw [hdone x]; simp) (fun _ _ => rfl)
      have hrd2 : ∀ x ∈ S, Ready (Bf x) := fun x hx => by obtain ⟨q, e⟩ := hq2 x hx; rw [e]; exact HRD.out x hx q
      have Q2 := Lib.hid hq2
      have RD2 := Lib.hid hrd2
      have A2 := Lib.hid ha2
      have F2 := Lib.hid hf
      have hsub := Lib.hid ha2.sub
      have hKb : d.K ≤ wr.heap.size := ha2.st.lo.2.2.2.2.2.2
      have hpb : ∀ x ∈ S, p x < wr.heap.size := fun x hx => (ha2.bu x hx).lt
      have PB := Lib.hid hpb
      obtain ⟨M, hM⟩ : ∃ M, M = N + 2 * d.n := ⟨_, rfl⟩
      rw [← hM] at A2
      have HM := Lib.hid hM
      clear hdone hr ha ht hf hq2 ha2 hrd2 hM hpb
      obtain ⟨w2, hW2⟩ : ∃ w2, w2 = wr := ⟨_, rfl⟩
      rw [← hW2] at A2 F2 hKb PB
      have W2 := Lib.hid hW2
      clear hW2
      go_wp2
      have st2 : AirW w2 d S p (fun _ => M) (fam Bf 0) := A2.out.congr (fun _ _ => Nat.le_refl _) (fam_zero Bf S d.n A2.out.sub)
      go_loopw [5, 6] (fun v i wr => ∃ k : Nat, k ≤ d.n ∧ i = .int .i64 ((k : Int) + 1) ∧ GotR wr w2.heap.size v (outsK d.n S Bf k) ∧ AirW wr d S p (fun _ => M) (fam Bf k) ∧ Fr d.K d.mo w2 wr) (fun _ i _ => d.n + 1 - (intOf i).toNat)
      case atStart => exact ⟨0, by omega, rfl, GotR.nil _ _, by rw [← W2.out]; exact st2, by rw [← W2.out]; exact Fr.refl _ _ _⟩
      case round =>
        clear st2
        obtain ⟨k, hk, rfl, hg, ha, hf⟩ := hrel
        have c0 := ha.st.c0
        have c1 := ha.st.c1
        have klen := alen34 ha.st
        by_cases hlt : k < d.n
        · have hkn : (k : Int) + 1 ≤ (d.n : Int) := by omega
          have hwf := wf_small (x := (k : Int) + 1) (by omega) (by omega)
          have G0 := Lib.hid hg
          have FR := Lib.hid hf
          by_cases hS : ((k : Int) + 1) ∈ S
          · have lk := ha.on.look_in hwf hS
            have hbx := ha.bu _ hS
            rw [fam_at] at hbx
            have hrd := RD2.out _ hS
            have hKx := (ha.K _ hS).1
            have hpx := PB.out _ hS
            have AA := Lib.hid ha
            have HS := Lib.hid hS
            have HRd := Lib.hid hrd
            have BB := Lib.hid hbx
            have hmoK := AA.out.st.lo
            have eO : outsK d.n S Bf (k + 1) = outsK d.n S Bf k ++ outB d.n ((k : Int) + 1) (Bf ((k : Int) + 1)) := by simp only [outsK, if_pos hS]
            have EO := Lib.hid eO
            have hol := outsK_len d.n S Bf k
            have hol2 := outB_len d.n ((k : Int) + 1) (Bf ((k : Int) + 1))
            have hmul : d.n * k ≤ 16 * 16 := Nat.mul_le_mul n16.2 (by omega)
            have HLEN := Lib.hid (show (outsK d.n S Bf k).length + (outB d.n ((k : Int) + 1) (Bf ((k : Int) + 1))).length ≤ 10000 by omega)
            have ld := hrd.ok.lead
            have tl := hrd.ok.tail
            have tl1 := Lib.hid hrd.left
            clear hg hf ha hS hrd hwf eO hol hol2 hmul
            obtain ⟨v2, hfr, hblk, e0, e1, e2, e3, e4⟩ := hbx.cells
            have hfr' := hfr
            obtain ⟨fa, cap, rfl, hcap, hmax, hrow⟩ := hfr'
            have f0 := free_of hblk 0
            have f1 := free_of hblk 1
            unfold maxLen at hmax
            clear hfr hblk hrow e3 e4 hbx hmoK
            have XP : Hid (p ((k : Int) + 1) = p ((k : Int) + 1)) := Lib.hid rfl
            generalize hC : Bf ((k : Int) + 1) = C at *
            have HC := Lib.hid hC
            clear hC
            by_cases hl : 0 < C.lead
            · -- lead
              have eq : stepped C = { C with lead := C.lead - 1 } := by unfold stepped; rw [if_pos hl]
              have eb : outB d.n ((k : Int) + 1) C = [] := by unfold outB; rw [if_pos hl]
              have hset := BB.out.setCell (o := 0) (x := .int .i64 (C.lead - 1)) (B' := stepped C) (fun v => by rw [eq]; rfl) (by rw [eq]) (by rw [eq]) (by rw [eq])
              have R := round2 AA.out HS.out (by rw [HC.out]; exact HRd.out) hset.2 (by simp) (by rw [HC.out]; exact hset.1)
              have RR := Lib.hid R
              have GG := Lib.hid (G0.out.only hset.2 (by simpa using hpx))
              have EB := Lib.hid eb
              clear hset R eq eb
              generalize C.fr.length = FL at *
              generalize C.lead = CL at *
              go_wp2_with fail
              refine klen.mono ?_
              rintro e w3 ⟨rfl, rfl⟩
              go_wp2
              go_roundw
              case rel => exact ⟨k + 1, by omega, by go_num, by rw [EO.out, EB.out, List.append_nil]; exact GG.out, RR.out.1, FR.out.trans RR.out.2⟩
              case measure => simp [intOf]; omega
            · have hl0 : C.lead = 0 := by omega
              have hl1 := Lib.hid hl
              have hl2 := Lib.hid hl0
              rw [hl0] at e0
              clear hl hl0 ld
              rcases hfe : C.fr with _ | ⟨s, r⟩
              · -- nothing but tail is left
                have t1 := tl1.out hl2.out hfe
                have eq : stepped C = { C with tail := C.tail - 1 } := by unfold stepped; rw [if_neg hl1.out, hfe]
                have eb : outB d.n ((k : Int) + 1) C = [] := by unfold outB; rw [if_neg hl1.out, hfe]
                have hset := BB.out.setCell (o := 1) (x := .int .i64 (C.tail - 1)) (B' := stepped C) (fun v => by rw [eq]; rfl) (by rw [eq]) (by rw [eq]) (by rw [eq])
                have R := round2 AA.out HS.out (by rw [HC.out]; exact HRd.out) hset.2 (by simp) (by rw [HC.out]; exact hset.1)
                have RR := Lib.hid R
                have GG := Lib.hid (G0.out.only hset.2 (by simpa using hpx))
                have EB := Lib.hid eb
                have hFL : C.fr.length = 0 := by rw [hfe]; rfl
                have hF0 : ¬ (0 : Int) < (C.fr.length : Int) := by omega
                clear hset R eq eb hfe hFL
                generalize C.fr.length = FL at *
                generalize C.tail = CT at *
                go_wp2_with fail
                refine klen.mono ?_
                rintro e w3 ⟨rfl, rfl⟩
                go_wp2
                go_roundw
                case rel => exact ⟨k + 1, by omega, by go_num, by rw [EO.out, EB.out, List.append_nil]; exact GG.out, RR.out.1, FR.out.trans RR.out.2⟩
                case measure => simp [intOf]; omega
              · have hF0 : (0 : Int) < (C.fr.length : Int) := by rw [hfe]; simp
                have FE := Lib.hid hfe
                have hbase : w2.heap.size ≤ wr.heap.size := FR.out.size
                by_cases hdn : C.done < longI s
                · have k35 := step_wait (w := wr) d.A ((k : Int) + 1) _ M C BB.out HRd.out.ok s r hfe hdn
                  have eq : stepped C = C := by unfold stepped; rw [if_neg hl1.out, hfe]; simp only [if_pos hdn]
                  have eb : outB d.n ((k : Int) + 1) C = [] := by unfold outB; rw [if_neg hl1.out, hfe]; simp only [if_pos hdn]
                  have EQ := Lib.hid eq
                  have EB := Lib.hid eb
                  clear eq eb hdn hfe
                  generalize C.fr.length = FL at *
                  go_wp2_with fail
                  refine klen.mono ?_
                  rintro e w3 ⟨rfl, rfl⟩
                  go_wp2_with fail
                  refine k35.mono ?_
                  rintro e w3 ⟨rfl, ho⟩
                  have R := round2 AA.out HS.out (by rw [HC.out]; exact HRd.out) ho (by simp) (by rw [HC.out, EQ.out]; exact BB.out.only ho (by simp) (by simp) (by simp))
                  have RR := Lib.hid R
                  have hg3 := G0.out.only ho (by simp)
                  have hb3 : w2.heap.size ≤ w3.heap.size := Nat.le_trans hbase ho.size
                  clear k35 R ho
                  go_wp2_with (at_builtin; refine wpList_append_gots rfl _ _ rfl w2.heap.size w2.heap.size u5 (.slice none 0 0) (outsK d.n S Bf k) [] rfl hg3 rfl (GotR.nil _ _) (by have := HLEN.out; simp; omega) hb3 ?_; intro v' w4 hg4 hgr4)
                  have RW := Lib.hid (RR.out.1.row hg3 hgr4 hKb)
                  have G4 := Lib.hid hg4
                  clear hg4 hgr4 hg3
                  go_wp2
                  go_roundw
                  case rel => exact ⟨k + 1, by omega, by go_num, by rw [EO.out, EB.out]; exact G4.out, RW.out.1, (FR.out.trans RR.out.2).trans RW.out.2⟩
                  case measure => simp [intOf]; omega
                · obtain ⟨q, hq⟩ := HRd.out.q
                  have k35 := step_send AA.out.st ((k : Int) + 1) _ M q C BB.out hq HRd.out.ok hKx s r hfe hdn
                  have eq : stepped C = sentBu r C := by unfold stepped; rw [if_neg hl1.out, hfe]; simp only [if_neg hdn]
                  have eb : outB d.n ((k : Int) + 1) C = outL ((k : Int) + 1) C.cf s d.n := by unfold outB; rw [if_neg hl1.out, hfe]; simp only [if_neg hdn]
                  have EQ := Lib.hid eq
                  have EB := Lib.hid eb
                  clear eq eb hdn hfe hq
                  generalize C.fr.length = FL at *
                  go_wp2_with fail
                  refine klen.mono ?_
                  rintro e w3 ⟨rfl, rfl⟩
                  go_wp2_with fail
                  refine k35.mono ?_
                  rintro e w3 ⟨v3, rfl, hv3, hb5, ho⟩
                  have R := round2 AA.out HS.out (by rw [HC.out]; exact HRd.out) ho (by simp) (by rw [HC.out, EQ.out]; exact hb5)
                  have RR := Lib.hid R
                  have hg3 := G0.out.only ho (by simpa using hpx)
                  have hb3 : w2.heap.size ≤ w3.heap.size := Nat.le_trans hbase ho.size
                  clear k35 R ho hb5
                  go_wp2_with (at_builtin; refine wpList_append_gots rfl _ _ rfl w2.heap.size _ u5 v3 (outsK d.n S Bf k) (outL ((k : Int) + 1) C.cf s d.n) rfl hg3 rfl hv3 (by have := HLEN.out; rw [EB.out] at this; exact this) hb3 ?_; intro v' w4 hg4 hgr4)
                  have RW := Lib.hid (RR.out.1.row hg3 hgr4 hKb)
                  have G4 := Lib.hid hg4
                  clear hg4 hgr4 hg3 hv3
                  go_wp2
                  go_roundw
                  case rel => exact ⟨k + 1, by omega, by go_num, by rw [EO.out, EB.out]; exact G4.out, RW.out.1, (FR.out.trans RR.out.2).trans RW.out.2⟩
                  case measure => simp [intOf]; omega
          · have lk := ha.on.look_out hwf hS
            have eO : outsK d.n S Bf (k + 1) = outsK d.n S Bf k := by simp only [outsK, if_neg hS, List.append_nil]
            have EO := Lib.hid eO
            have A3 := Lib.hid (ha.congr (fun _ _ => Nat.le_refl _) (fam_out Bf S k hS))
            clear hg hf ha hS eO hwf
            go_wp2_with fail
            refine klen.mono ?_
            rintro e w3 ⟨rfl, rfl⟩
            go_wp2
            go_roundw
            case rel => exact ⟨k + 1, by omega, by go_num, by rw [EO.out]; exact G0.out, A3.out, FR.out⟩
            case measure => simp [intOf]; omega
        · obtain rfl : k = d.n := by omega
          have hkn : ¬ ((d.n : Int) + 1 ≤ (d.n : Int)) := by omega
          have ha3 := fam_end ha
          have hm3 := ha3.on
          have FR := Lib.hid hf
          have GG := Lib.hid hg
          have A3 := Lib.hid ha3
          clear hg hf ha ha3
          go_wp2_with (first | (go_at_call 34; refine klen.mono ?_; rintro e w3 ⟨rfl, rfl⟩) | (at_range; refine wpList_range_on rfl _ rfl d.mo S p rfl hm3 ?_; intro w4 hr4 ho4 hz4))
          go_frame
          have hr3K : d.K ≤ wr.heap.size := A3.out.st.lo.2.2.2.2.2.2
          have hg4 := GG.out.only ho4 (by simp)
          have ha4 := A3.out.same ho4
          have hf4 := FR.out.trans (Fr.of_only ho4 (by simp))
          obtain ⟨r3, hr3⟩ : ∃ r3, r3 = wr.heap.size := ⟨_, rfl⟩
          rw [← hr3] at hr4 hr3K
          have R3E := Lib.hid hr3
          have hrmo : ¬ r3 = d.mo := by have := hr4.ne; exact this
          have hr3b : w2.heap.size ≤ r3 := by rw [hr3]; exact FR.out.size
          rw [← hr3]
          have hmoK : d.mo < w2.heap.size := by have := A2.out.st.lo; omega
          clear hm3 klen c0 c1 hz4 ho4 hr3
          go_loopw [8] (fun _ wr => ∃ rem, OnR wr d.mo r3 (S.filter fun y => rem y || keepB Bf y) p rem ∧ AirW wr d (S.filter fun y => rem y || keepB Bf y) p (fun _ => M) (fun x => stepped (Bf x)) ∧ GotR wr w2.heap.size u5 (outsK d.n S Bf d.n) ∧ Fr d.K d.mo w2 wr) (fun _ wr => wr.rangeLeft d.mo r3)
          case atStart => exact ⟨_, by rw [← filt_start]; exact hr4, by rw [← filt_start]; exact ha4, hg4, hf4⟩
          case round =>
            clear hr4 ha4 hg4 hf4
            obtain ⟨rem, hr, ha, hg, hf⟩ := hrel
            go_wp2_with (at_next; refine wpList_next_on rfl _ rfl d.mo r3 (S.filter fun y => rem y || keepB Bf y) p rem rfl hr ?_ ?_)
            · intro hdone
              rw [filt_end hdone] at ha
              have AE := Lib.hid ha
              have GE := Lib.hid hg
              have FE := Lib.hid hf
              clear hdone hr ha hg hf
              go_wp2
              go_ret
              exact ⟨_, Bf, rfl, Q2.out, GE.out.base (F2.out.size), by rw [← HM.out]; exact AE.out, F2.out.trans FE.out⟩
            · intro x w5 hrx hxS0 hxS1 hr1 hlt ho1 hz1 hen
              have hxS : x ∈ S.filter fun y => rem y || keepB Bf y := List.mem_filter.2 ⟨hxS0, by simp [hrx]⟩
              clear hxS0 hxS1
              have ha1 := ha.next hr ho1 hr3K
              have hf1 := hf.trans (Fr.of_only ho1 (fun y hy => Or.inr (by rw [show y = r3 by simpa using hy]; exact hr3K)))
              have hg1 : GotR w5 w2.heap.size u5 (outsK d.n S Bf d.n) := by
                rcases hg.shape with ⟨e1, e2⟩ | ⟨g, cap, e1, hb, ⟨cur, hh⟩, _⟩
                · rw [e1, e2]; exact GotR.nil _ _
                · refine ⟨hg.1, ?_⟩
                  obtain ⟨m, s', e', c', hi⟩ := hr.iter
                  have hne : g ≠ r3 := fun e => by rw [e, hi] at hh; cases hh
                  rcases hg.2 with h0 | ⟨g', cap', cur', hv, hb', hh', rest⟩
                  · exact Or.inl h0
                  · have eg : g' = g := by rw [e1] at hv; cases hv; rfl
                    subst eg
                    exact Or.inr ⟨g', cap', cur', hv, hb', ho1.heap hh' (by simpa using hne), rest⟩
              have k36 := left36 (ha1.bu x hxS) (ha1.ok x hxS)
              have c1 := ha1.st.c1
              have LT := Lib.hid hlt
              have R1 := Lib.hid hr1
              have A1 := Lib.hid ha1
              have F1 := Lib.hid hf1
              have G1 := Lib.hid hg1
              have HX := Lib.hid hxS
              clear hlt hr1 ha1 hf1 hg1 hxS ho1 hz1 hr ha hg hf hrx
              by_cases hz : leftI (stepped (Bf x)) = 0
              · have hk : keepB Bf x = false := by simp [keepB, hz]
                have HK := Lib.hid hk
                rw [hz] at k36
                clear hz hk
                go_wp2_with fail
                refine k36.mono ?_
                rintro e w6 ⟨rfl, ho6⟩
                have hr6 := R1.out.only ho6 (by simp) (by simp)
                have hl6 := R1.out.left_only ho6 (by simp) (by simp)
                have c16 := (A1.out.same ho6).st.c1
                have A6 := Lib.hid (A1.out.same ho6)
                have F6 := Lib.hid (F1.out.trans (Fr.of_only ho6 (by simp)))
                have G6 := Lib.hid (G1.out.only ho6 (by simp))
                have L6 := Lib.hid hl6
                clear k36 ho6 hl6 c1
                go_wp2_with (at_delete; refine wpList_delete_on rfl _ _ rfl d.mo r3 _ p _ rfl hr6 x rfl HX.out (by simp) ?_; intro w7 hr7 hl7 ho7; go_frame)
                have A7 := Lib.hid (A6.out.del ho7 hr7.owns (fun y hy => (List.mem_filter.1 hy).1))
                have F7 := Lib.hid (F6.out.trans (Fr.of_only ho7 (fun y hy => Or.inl (by simpa using hy))))
                have G7 := Lib.hid (G6.out.mo ho7 hmoK)
                have R7 := Lib.hid hr7
                have L7 := Lib.hid hl7
                clear hr7 hl7 ho7 hr6
                go_wp2
                go_roundw
                case rel => exact ⟨_, by rw [← filt_del HK.out]; exact R7.out, by rw [← filt_del HK.out]; exact A7.out, G7.out, F7.out⟩
                case measure => have h1 := LT.out; have h2 := L6.out; have h3 := L7.out; omega
              · have hk : keepB Bf x = true := by simp [keepB, hz]
                have HK := Lib.hid hk
                have hz0 : (leftI (stepped (Bf x)) == 0) = false := by simpa using hz
                clear hz hk
                generalize leftI (stepped (Bf x)) = LI at *
                go_wp2_with fail
                refine k36.mono ?_
                rintro e w6 ⟨rfl, ho6⟩
                have R6 := Lib.hid (R1.out.only ho6 (by simp) (by simp))
                have L6 := Lib.hid (R1.out.left_only ho6 (by simp) (by simp))
                have A6 := Lib.hid (A1.out.same ho6)
                have F6 := Lib.hid (F1.out.trans (Fr.of_only ho6 (by simp)))
                have G6 := Lib.hid (G1.out.only ho6 (by simp))
                clear k36 ho6 c1
                go_wp2
                go_roundw
                case rel => exact ⟨_, by rw [← filt_keep HK.out]; exact R6.out, by rw [← filt_keep HK.out]; exact A6.out, G6.out, F6.out⟩
                case measure => rw [L6.out]; exact LT.out
    · intro x w1 hrx hxS hr1 hlt ho1 hz1 hen
      have ha1 := ha.next hr ho1 hK
      have hf1 := hf.trans (Fr.of_only ho1 (fun y hy => Or.inr (by rw [show y = w.heap.size by simpa using hy]; exact hK)))
      have hbx := ha1.bu x hxS
      have hBx : Bf x = B x := by have := ht x hxS; rw [if_pos hrx] at this; exact this
      rw [hBx, if_pos hrx] at hbx
      have hsub := ha1.sub x hxS
      have hKx := ha1.K x hxS
      rw [hBx] at hKx
      have hokx := ha1.ok x hxS
      rw [hBx] at hokx
      have c1 := ha1.st.c1
      have c0 := ha1.st.c0
      have LT := Lib.hid hlt
      have R1 := Lib.hid hr1
      have A1 := Lib.hid ha1
      have F1 := Lib.hid hf1
      have T := Lib.hid ht
      have BX := Lib.hid hBx
      have RX := Lib.hid hrx
      have HX := Lib.hid hxS
      have HKX := Lib.hid hKx
      have dn := HD.out x hxS
      have dn0 := hokx.done
      have OKX := Lib.hid hokx
      obtain ⟨v, hfr, hblk, c0b, c1b, c2b, c3b, c4b⟩ := hbx.cells
      have hfr' := hfr
      obtain ⟨fa, cap, rfl, hcap, hmax, hrow⟩ := hfr'
      unfold maxLen at hmax
      have HFR := Lib.hid hfr
      have HBX := Lib.hid hbx
      have HBL := Lib.hid hblk
      have ir := hr1.iter
      have hrp : w.heap.size ≠ p x := by
        obtain ⟨m, s, e, c, hi⟩ := ir
        intro e; rw [e] at hi; rw [hi] at hblk; cases hblk
      have hrq : ∀ q, (B x).q = some q → w.heap.size ≠ q := by
        intro q hq e
        obtain ⟨m, s, e', c, hi⟩ := ir
        obtain ⟨es, c', hm'⟩ := (hbx.cl1 q hq).isMap
        rw [← e, hi] at hm'; cases hm'
      have HRQ := Lib.hid hrq
      have hrlt := hr1.lt
      clear hlt hr1 ha1 hf1 ht hBx hrx ho1 hz1 hr ha hf hxS hKx hokx hrow hblk hbx hfr ir hrq
      cases hq : (B x).q with
      | none =>
        rw [hq] at c4b
        have QQ := Lib.hid hq
        obtain ⟨⟨hb2, hh2⟩, ho2⟩ := made_q HBX.out HBL.out HFR.out hq
        have hfz := free_of HBL.out 4
        have hlt2 := heap_lt HBL.out
        have hair2 := A1.out.st.only ho2 (fun y hy => Or.inr (by rw [show y = p x by simpa using hy]; exact HKX.out.1))
        have hon2 := A1.out.on.only ho2 (fun hm => by have := HKX.out.1; have := A1.out.st.lo; simp at hm; omega)
        have hr2 := R1.out.only ho2 (fun hm => by have := HKX.out.1; have := A1.out.st.lo; simp at hm; omega) (by simpa using hrp)
        have hl2 := R1.out.left_only ho2 (fun hm => by have := HKX.out.1; have := A1.out.st.lo; simp at hm; omega) (by simpa using hrp)
        have hqK : d.K ≤ w1.heap.size := A1.out.st.lo.2.2.2.2.2.2
        have q0 : (qBu w1.heap.size (B x)).q = some w1.heap.size := rfl
        have HB2 := Lib.hid hb2
        have HO2 := Lib.hid ho2
        have HR2 := Lib.hid hr2
        have HL2 := Lib.hid hl2
        have HQ0 := Lib.hid q0
        have HRP := Lib.hid hrp
        have e0 : (((w1.setCell ⟨p x, 4, none⟩ (.map (some w1.heap.size))).alloc (.map #[] 0))).cell? ⟨p x, 0, none⟩ = some (.int .i64 (B x).lead) := (cell_of hh2 0).trans rfl
        have e2 := (cell_of hh2 2).trans (show _ = some (.slice fa (B x).fr.length cap) from rfl)
        have dc0 := hair2.c0
        have k33 := watch33 hair2 hon2 A1.out.sub x hsub N (p x) w1.heap.size (qBu w1.heap.size (B x)) hb2 q0 HKX.out.1 hqK (by omega) (by show 0 ≤ (B x).done ∧ (B x).done ≤ 20; omega)
        clear hb2 hh2 ho2 hair2 hon2 hr2 hl2 hqK q0 hq hrp
        by_cases hl : (B x).lead = 0
        · by_cases hlen : 0 < (B x).fr.length
          · have hW := Lib.hid (watched_yes (S := S) (n := d.n) (x := x) hl hlen)
            have hL0 : (0 : Int) < ((B x).fr.length : Int) := by omega
            have HH := Lib.hid hl
            rw [hl] at e0
            clear hl hlen
            generalize (B x).fr.length = FL at *
            go_wp2_with fail
            refine k33.mono ?_
            rintro e w3 ⟨rfl, hb3, ho3⟩
            have B3 : Hid (BuW w3 (p x) (N + 2 * d.n) (qBu w1.heap.size (watched S d.n x (B x)))) := Lib.hid (by rw [hW.out]; exact hb3)
            have O3 : Hid (Only [p x] w1 w3) := Lib.hid (HO2.out.trans_new ho3 (by simp))
            have hmoL : d.mo ∉ [p x, w1.heap.size] := fun hm => by have h1 := HKX.out.1; have h2 := A1.out.st.lo; simp at hm; omega
            have hrL : w.heap.size ∉ [p x, w1.heap.size] := by simp; exact ⟨HRP.out, by omega⟩
            have R3 := Lib.hid (HR2.out.only ho3 hmoL hrL)
            have L3 := Lib.hid ((HR2.out.left_only ho3 hmoL hrL).trans HL2.out)
            clear hb3 ho3 hmoL hrL k33
            go_wp2
            go_roundw
            case rel =>
              have R := round1 A1.out HX.out RX.out T.out dn O3.out (by simp) B3.out (Or.inr (Nat.le_refl _))
              exact ⟨_, _, R3.out, R.1, R.2.1, F1.out.trans R.2.2⟩
            case measure => rw [L3.out]; exact LT.out
          · have hW := Lib.hid (watched_no (S := S) (n := d.n) (x := x) (B := B x) (Or.inr (by omega)))
            have hL0 : ((B x).fr.length : Int) = 0 := by omega
            have hL1 : ¬ (0 : Int) < ((B x).fr.length : Int) := by omega
            rw [hl] at e0
            clear hl hlen
            have B3 : Hid (BuW ((w1.setCell ⟨p x, 4, none⟩ (.map (some w1.heap.size))).alloc (.map #[] 0)) (p x) (N + 2 * d.n) (qBu w1.heap.size (watched S d.n x (B x)))) := Lib.hid (by rw [hW.out]; exact HB2.out.mono (by omega))
            have O3 := HO2
            have R3 := HR2
            have L3 := HL2
            clear k33
            generalize (B x).fr.length = FL at *
            clear hL0
            go_wp2
            go_roundw
            case rel =>
              have R := round1 A1.out HX.out RX.out T.out dn O3.out (by simp) B3.out (Or.inr (Nat.le_refl _))
              exact ⟨_, _, R3.out, R.1, R.2.1, F1.out.trans R.2.2⟩
            case measure => rw [L3.out]; exact LT.out
        · have hW := Lib.hid (watched_no (S := S) (n := d.n) (x := x) (B := B x) (Or.inl hl))
          have hl0 : ((B x).lead == 0) = false := by simpa using hl
          clear hl
          have B3 : Hid (BuW ((w1.setCell ⟨p x, 4, none⟩ (.map (some w1.heap.size))).alloc (.map #[] 0)) (p x) (N + 2 * d.n) (qBu w1.heap.size (watched S d.n x (B x)))) := Lib.hid (by rw [hW.out]; exact HB2.out.mono (by omega))
          have O3 := HO2
          have R3 := HR2
          have L3 := HL2
          clear k33
          generalize (B x).fr.length = FL at *
          generalize (B x).lead = BL at *
          go_wp2
          go_roundw
          case rel =>
            have R := round1 A1.out HX.out RX.out T.out dn O3.out (by simp) B3.out (Or.inr (Nat.le_refl _))
            exact ⟨_, _, R3.out, R.1, R.2.1, F1.out.trans R.2.2⟩
          case measure => rw [L3.out]; exact LT.out
      | some q =>
        rw [hq] at c4b
        have QQ := Lib.hid hq
        have hb2 : BuW w1 (p x) N (qBu q (B x)) := by rw [qBu_self hq]; exact HBX.out
        have hh2 : w1.heap[p x]? = some (.cells (bcells (qBu q (B x)) (.slice fa (B x).fr.length cap)) 79 (0, 0)) := by rw [qBu_self hq]; exact HBL.out
        have ho2 : Only [p x, q] w1 w1 := Only.refl _ _
        have hair2 := A1.out.st
        have hon2 := A1.out.on
        have hr2 := R1.out
        have hl2 : w1.rangeLeft d.mo w.heap.size = w1.rangeLeft d.mo w.heap.size := rfl
        have hqK : d.K ≤ q := HKX.out.2 q hq
        have q0 : (qBu q (B x)).q = some q := rfl
        have HB2 := Lib.hid hb2
        have HO2 := Lib.hid ho2
        have HR2 := Lib.hid hr2
        have HL2 := Lib.hid hl2
        have HQ0 := Lib.hid q0
        have HRP := Lib.hid hrp
        have e0 : (w1).cell? ⟨p x, 0, none⟩ = some (.int .i64 (B x).lead) := (cell_of hh2 0).trans rfl
        have e2 := (cell_of hh2 2).trans (show _ = some (.slice fa (B x).fr.length cap) from rfl)
        have dc0 := hair2.c0
        have k33 := watch33 hair2 hon2 A1.out.sub x hsub N (p x) q (qBu q (B x)) hb2 q0 HKX.out.1 hqK (by omega) (by show 0 ≤ (B x).done ∧ (B x).done ≤ 20; omega)
        clear hb2 hh2 ho2 hair2 hon2 hr2 hl2 hqK q0 hq hrp
        by_cases hl : (B x).lead = 0
        · by_cases hlen : 0 < (B x).fr.length
          · have hW := Lib.hid (watched_yes (S := S) (n := d.n) (x := x) hl hlen)
            have hL0 : (0 : Int) < ((B x).fr.length : Int) := by omega
            have HH := Lib.hid hl
            rw [hl] at e0
            clear hl hlen
            generalize (B x).fr.length = FL at *
            go_wp2_with fail
            refine k33.mono ?_
            rintro e w3 ⟨rfl, hb3, ho3⟩
            have B3 : Hid (BuW w3 (p x) (N + 2 * d.n) (qBu q (watched S d.n x (B x)))) := Lib.hid (by rw [hW.out]; exact hb3)
            have O3 : Hid (Only [p x, q] w1 w3) := Lib.hid (HO2.out.trans_new ho3 (by simp))
            have hmoL : d.mo ∉ [p x, q] := fun hm => by have h1 := HKX.out.1; have h2 := A1.out.st.lo; simp at hm; have h3 := HKX.out.2 q QQ.out; omega
            have hrL : w.heap.size ∉ [p x, q] := by simp; exact ⟨HRP.out, HRQ.out q QQ.out⟩
            have R3 := Lib.hid (HR2.out.only ho3 hmoL hrL)
            have L3 := Lib.hid (HR2.out.left_only ho3 hmoL hrL)
            clear hb3 ho3 hmoL hrL k33
            go_wp2
            go_roundw
            case rel =>
              have R := round1 A1.out HX.out RX.out T.out dn O3.out (by simp [QQ.out]) B3.out (Or.inl QQ.out)
              exact ⟨_, _, R3.out, R.1, R.2.1, F1.out.trans R.2.2⟩
            case measure => rw [L3.out]; exact LT.out
          · have hW := Lib.hid (watched_no (S := S) (n := d.n) (x := x) (B := B x) (Or.inr (by omega)))
            have hL0 : ((B x).fr.length : Int) = 0 := by omega
            have hL1 : ¬ (0 : Int) < ((B x).fr.length : Int) := by omega
            rw [hl] at e0
            clear hl hlen
            have B3 : Hid (BuW w1 (p x) (N + 2 * d.n) (qBu q (watched S d.n x (B x)))) := Lib.hid (by rw [hW.out]; exact HB2.out.mono (by omega))
            have O3 := HO2
            have R3 := HR2
            clear k33
            generalize (B x).fr.length = FL at *
            clear hL0
            go_wp2
            go_roundw
            all_goals first
              | exact LT.out
              | (have R := round1 A1.out HX.out RX.out T.out dn O3.out (by simp [QQ.out]) B3.out (Or.inl QQ.out); exact ⟨_, _, R3.out, R.1, R.2.1, F1.out.trans R.2.2⟩)
              | (have R := round1 A1.out HX.out RX.out T.out dn O3.out (by simp [QQ.out]) B3.out (Or.inl QQ.out); exact ⟨⟨_, _, R3.out, R.1, R.2.1, F1.out.trans R.2.2⟩, LT.out⟩)
        · have hW := Lib.hid (watched_no (S := S) (n := d.n) (x := x) (B := B x) (Or.inl hl))
          have hl0 : ((B x).lead == 0) = false := by simpa using hl
          clear hl
          have B3 : Hid (BuW w1 (p x) (N + 2 * d.n) (qBu q (watched S d.n x (B x)))) := Lib.hid (by rw [hW.out]; exact HB2.out.mono (by omega))
          have O3 := HO2
          have R3 := HR2
          clear k33
          generalize (B x).fr.length = FL at *
          generalize (B x).lead = BL at *
          go_wp2
          go_roundw
          case rel =>
            have R := round1 A1.out HX.out RX.out T.out dn O3.out (by simp [QQ.out]) B3.out (Or.inl QQ.out)
            exact ⟨_, _, R3.out, R.1, R.2.1, F1.out.trans R.2.2⟩
          case measure => exact LT.out
end Go.Proofs.Ytommamngklobkaa
