/- What watch notes of a burst (contract). No conditions but those that each theorem names. -/
import Derived.Test.YtommamngklobkaaBu
namespace Go.Proofs.Ytommamngklobkaa
open Go.RowKit
set_option linter.unusedVariables false
/-- Is station i clear to j, of those on in S? -/
def okB (S : List Int) (i j : Int) : Bool := !decide (j = i) && (!decide (j ∈ S) && !hB S i j)
/-- What the clear map holds behind the first k stations. -/
def wF (S : List Int) (i done : Int) (cf : Int → Bool) (k : Nat) : Int → Bool := fun y => if 1 ≤ y ∧ y ≤ k then (if done = 0 then okB S i y else cf y && okB S i y) else cf y
theorem wF_zero (S : List Int) (i done : Int) (cf : Int → Bool) : wF S i done cf 0 = cf := by
  funext y; unfold wF; rw [if_neg (by omega)]
theorem wF_at (S : List Int) (i done : Int) (cf : Int → Bool) (k : Nat) : wF S i done cf k ((k : Int) + 1) = cf ((k : Int) + 1) := by
  unfold wF; rw [if_neg (by omega)]
theorem wF_step (S : List Int) (i done : Int) (cf : Int → Bool) (k : Nat) (c : Bool) (h : c = if done = 0 then okB S i ((k : Int) + 1) else cf ((k : Int) + 1) && okB S i ((k : Int) + 1)) :
    (fun y => if y = (k : Int) + 1 then c else wF S i done cf k y) = wF S i done cf (k + 1) := by
  funext y
  unfold wF
  by_cases e : y = (k : Int) + 1
  · rw [if_pos e, if_pos (by omega), e]; exact h
  · rw [if_neg e]
    by_cases e2 : 1 ≤ y ∧ y ≤ (k : Int)
    · have e3 : 1 ≤ y ∧ y ≤ ((k + 1 : Nat) : Int) := by omega
      simp only [if_pos e2, if_pos e3]
    · have e3 : ¬ (1 ≤ y ∧ y ≤ ((k + 1 : Nat) : Int)) := by omega
      simp only [if_neg e2, if_neg e3]
theorem put_twice (f : Int → Bool) (x : Int) (c c' : Bool) : (fun y => if y = x then c' else (fun z => if z = x then c else f z) y) = fun y => if y = x then c' else f y := by
  funext y; by_cases e : y = x <;> simp [e]
/-- A burst once its clear map is there, and it was watched. -/
def watchBu (S : List Int) (n : Nat) (i : Int) (B : Bu) : Bu := { B with done := B.done + 1, cf := wF S i B.done B.cf n }
set_option maxRecDepth 100000 in
set_option maxHeartbeats 4000000 in
theorem watch33 {w : World} {d : Id} {S : List Int} {p : Int → Nat} (h : AirS w d) (hm : OnM w d.mo S p) (hsub : ∀ x ∈ S, 1 ≤ x ∧ x ≤ d.n) (i : Int) (hi : 1 ≤ i ∧ i ≤ d.n) (N pb q : Nat) (B : Bu) (hb : BuW w pb N B) (hq : B.q = some q)
    (hpK : d.K ≤ pb) (hqK : d.K ≤ q) (hN : N ≤ 900000) (hok : 0 ≤ B.done ∧ B.done ≤ 20) :
    Calls Try.prog 33 #[.pointer (some ⟨d.A, 0, none⟩), .int .i64 i, .pointer (some ⟨pb, 0, none⟩)] w fun e w' => e = .returned (.tuple #[]) ∧ BuW w' pb (N + 2 * d.n) (watchBu S d.n i B) ∧ Only [pb, q] w w' := by
  have hbo := hb.cl1 q hq
  obtain ⟨v, hfr, hblk, c0, c1, c2, c3, c4⟩ := hb.cells
  have hpq : pb ≠ q := by
    obtain ⟨es, c, hh⟩ := hbo.isMap
    intro e; subst e; rw [hblk] at hh; cases hh
  rw [hq] at c4
  have hn16 := h.n16
  have H := Lib.hid h
  have HM := Lib.hid hm
  have HS := Lib.hid hsub
  have HB := Lib.hid hblk
  have HF := Lib.hid hfr
  have HBU := Lib.hid hb
  have lo := h.lo
  have hqq := Lib.hid hq
  clear h hm hsub hblk hfr hb hq
  clear c0 c1 c2 c3 c4
  go_enter Try.func33, Try.ntmps33
  go_wp2
  go_loopw [6] (fun j wr => ∃ k : Nat, k ≤ d.n ∧ j = .int .i64 ((k : Int) + 1) ∧ BoM wr q (N + 2 * k) (wF S i B.done B.cf k) ∧ Only [q] w wr) (fun j _ => d.n + 1 - (intOf j).toNat)
  case atStart => exact ⟨0, by omega, rfl, by rw [wF_zero]; exact hbo, Only.refl _ _⟩
  case round =>
    clear hbo
    obtain ⟨k, hk, rfl, hbo, ho⟩ := hrel
    have hair := H.out.only ho (by simp; omega)
    have c0 := hair.c0
    have hblk := ho.heap HB.out (by simpa using hpq)
    have c3 : wr.cell? ⟨pb, 3, none⟩ = some (.int .i64 B.done) := (cell_of hblk 3).trans rfl
    have c4 : wr.cell? ⟨pb, 4, none⟩ = some (.map (some q)) := (cell_of hblk 4).trans (by rw [← hqq.out]; rfl)
    have klen := alen34 hair
    by_cases hlt : k < d.n
    · have k22 := hears22_air hair ((k : Int) + 1) i (by omega) hi
      have HJ := Lib.hid (wf_small (x := (k : Int) + 1) (by omega) (by omega))
      have O := Lib.hid ho
      have BO := Lib.hid hbo
      have hkn : (k : Int) + 1 ≤ (d.n : Int) := by omega
      have hnot : d.mo ∉ [q] := by simp; omega
      have HON := Lib.hid (HM.out.only ho hnot)
      have HAIR := Lib.hid hair
      clear ho hbo hair hnot
      by_cases e1 : ((k : Int) + 1) = i
      · rw [decide_eq_true e1] at k22
        have ok : okB S i ((k : Int) + 1) = false := by simp [okB, e1]
        clear e1
        go_wp2_with fail
        refine klen.mono ?_
        rintro e w1 ⟨rfl, rfl⟩
        go_wp2_with fail
        refine k22.mono ?_
        rintro e w1 ⟨rfl, ho1⟩
        clear k22 klen c0
        have hblk1 := ho1.heap hblk (by simp)
        have d3 : w1.cell? ⟨pb, 3, none⟩ = some (.int .i64 B.done) := (cell_of hblk1 3).trans rfl
        have d4 : w1.cell? ⟨pb, 4, none⟩ = some (.map (some q)) := (cell_of hblk1 4).trans (by rw [← hqq.out]; rfl)
        have hb1 := BO.out.only ho1 (by simp)
        have OK := Lib.hid ok
        clear hblk hblk1 c3 c4 ok
        by_cases e0 : B.done = 0
        · go_wp2_with (at_mapUpdate; refine wpList_put_bo rfl _ _ _ rfl q _ _ rfl hb1 ((k : Int) + 1) false rfl rfl HJ.out (by omega) ?_; intro w2 hb2 hg2)
          have hoX : Only [q] w w2 := (O.out.trans (ho1.mono (by simp))).grown hg2 (fun r hr => by cases hr; simp)
          have hblkX := hoX.heap HB.out (by simpa using hpq)
          clear hb1 d3 d4 hg2
          have d4' : w2.cell? ⟨pb, 4, none⟩ = some (.map (some q)) := (cell_of hblkX 4).trans (by rw [← hqq.out]; rfl)
          have lk : (Instr.lookup 77 (.map (some q)) (.int .i64 ((k : Int) + 1)) false).run Try.prog w2.drew = .ok (.bool false) w2.drew := by
            have := BoM.look (w := w2.drew) (show BoM w2.drew q _ _ from hb2) HJ.out
            refine Eq.trans this ?_
            simp only [if_true]
          have HBX := Lib.hid hb2
          have OX := Lib.hid hoX
          clear hb2 hoX hblkX
          go_still_tail 14, (by kernel_rfl)
          change wpList _ _ _ _ _ w2.drew
          have hb3 : BoM w2.drew q _ _ := HBX.out
          go_wp2_with (at_mapUpdate; refine wpList_put_bo (w := w2.drew) rfl _ _ _ rfl q _ _ rfl hb3 ((k : Int) + 1) false rfl rfl HJ.out (by omega) ?_; intro w4 hb4 hg4)
          clear lk d4'
          go_wp2
          go_roundw
          case rel =>
            refine ⟨k + 1, by omega, by go_num, ?_, (OX.out.drew).grown hg4 (fun r hr => by cases hr; simp)⟩
            rw [put_twice, wF_step _ _ _ _ _ _ (by rw [if_pos e0, OK.out])] at hb4
            exact hb4
          case measure => simp [intOf]; omega
        · cases hcf : B.cf ((k : Int) + 1)
          · have hoX : Only [q] w w1 := O.out.trans (ho1.mono (by simp))
            have hblkX := hoX.heap HB.out (by simpa using hpq)
            have HCF := Lib.hid hcf
            have e0b : (B.done == 0) = false := by simpa using e0
            have E0 := Lib.hid e0
            clear d4 hcf e0
            go_wp2
            have d4' : w1.cell? ⟨pb, 4, none⟩ = some (.map (some q)) := (cell_of hblkX 4).trans (by rw [← hqq.out]; rfl)
            have lk : (Instr.lookup 77 (.map (some q)) (.int .i64 ((k : Int) + 1)) false).run Try.prog w1.drew = .ok (.bool false) w1.drew := by
              have := BoM.look (w := w1.drew) (show BoM w1.drew q _ _ from hb1) HJ.out
              refine Eq.trans this ?_
              rw [wF_at, HCF.out]
            have HBX := Lib.hid hb1
            have OX := Lib.hid hoX
            clear hb1 hoX hblkX
            go_still_tail 14, (by kernel_rfl)
            change wpList _ _ _ _ _ w1.drew
            have hb3 : BoM w1.drew q _ _ := HBX.out
            go_wp2_with (at_mapUpdate; refine wpList_put_bo (w := w1.drew) rfl _ _ _ rfl q _ _ rfl hb3 ((k : Int) + 1) false rfl rfl HJ.out (by omega) ?_; intro w4 hb4 hg4)
            clear lk d4'
            go_wp2
            go_roundw
            case rel =>
              refine ⟨k + 1, by omega, by go_num, ?_, (OX.out.drew).grown hg4 (fun r hr => by cases hr; simp)⟩
              rw [wF_step _ _ _ _ _ _ (by rw [if_neg E0.out, OK.out, HCF.out]; rfl)] at hb4
              exact hb4.mono (by omega)
            case measure => simp [intOf]; omega
          · have hoX : Only [q] w w1 := O.out.trans (ho1.mono (by simp))
            have hblkX := hoX.heap HB.out (by simpa using hpq)
            have HCF := Lib.hid hcf
            have e0b : (B.done == 0) = false := by simpa using e0
            have E0 := Lib.hid e0
            clear d4 hcf e0
            go_wp2
            have d4' : w1.cell? ⟨pb, 4, none⟩ = some (.map (some q)) := (cell_of hblkX 4).trans (by rw [← hqq.out]; rfl)
            have lk : (Instr.lookup 77 (.map (some q)) (.int .i64 ((k : Int) + 1)) false).run Try.prog w1.drew = .ok (.bool true) w1.drew := by
              have := BoM.look (w := w1.drew) (show BoM w1.drew q _ _ from hb1) HJ.out
              refine Eq.trans this ?_
              rw [wF_at, HCF.out]
            have HBX := Lib.hid hb1
            have OX := Lib.hid hoX
            clear hb1 hoX hblkX
            go_still_tail 14, (by kernel_rfl)
            change wpList _ _ _ _ _ w1.drew
            have hb3 : BoM w1.drew q _ _ := HBX.out
            go_wp2_with (at_mapUpdate; refine wpList_put_bo (w := w1.drew) rfl _ _ _ rfl q _ _ rfl hb3 ((k : Int) + 1) false rfl rfl HJ.out (by omega) ?_; intro w4 hb4 hg4)
            clear lk d4'
            go_wp2
            go_roundw
            case rel =>
              refine ⟨k + 1, by omega, by go_num, ?_, (OX.out.drew).grown hg4 (fun r hr => by cases hr; simp)⟩
              rw [wF_step _ _ _ _ _ _ (by rw [if_neg E0.out, OK.out, HCF.out]; rfl)] at hb4
              exact hb4.mono (by omega)
            case measure => simp [intOf]; omega
      · rw [decide_eq_false e1] at k22
        by_cases eS : ((k : Int) + 1) ∈ S
        · have ok : okB S i ((k : Int) + 1) = false := by simp [okB, eS]
          have ES := Lib.hid eS
          clear e1 eS
          go_wp2_with fail
          refine klen.mono ?_
          rintro e w1 ⟨rfl, rfl⟩
          go_wp2_with fail
          refine k22.mono ?_
          rintro e w1 ⟨rfl, ho1⟩
          have k19 := on19 (HAIR.out.only ho1 (by simp)) (HON.out.only ho1 (by simp)) ((k : Int) + 1) HJ.out
          rw [decide_eq_true ES.out] at k19
          clear k22 klen c0
          go_wp2_with fail
          refine k19.mono ?_
          rintro e w1' ⟨rfl, rfl⟩
          clear k19
          have hblk1 := ho1.heap hblk (by simp)
          have d3 : w1.cell? ⟨pb, 3, none⟩ = some (.int .i64 B.done) := (cell_of hblk1 3).trans rfl
          have d4 : w1.cell? ⟨pb, 4, none⟩ = some (.map (some q)) := (cell_of hblk1 4).trans (by rw [← hqq.out]; rfl)
          have hb1 := BO.out.only ho1 (by simp)
          have OK := Lib.hid ok
          clear hblk hblk1 c3 c4 ok
          by_cases e0 : B.done = 0
          · go_wp2_with (at_mapUpdate; refine wpList_put_bo rfl _ _ _ rfl q _ _ rfl hb1 ((k : Int) + 1) false rfl rfl HJ.out (by omega) ?_; intro w2 hb2 hg2)
            have hoX : Only [q] w w2 := (O.out.trans (ho1.mono (by simp))).grown hg2 (fun r hr => by cases hr; simp)
            have hblkX := hoX.heap HB.out (by simpa using hpq)
            clear hb1 d3 d4 hg2
            have d4' : w2.cell? ⟨pb, 4, none⟩ = some (.map (some q)) := (cell_of hblkX 4).trans (by rw [← hqq.out]; rfl)
            have lk : (Instr.lookup 77 (.map (some q)) (.int .i64 ((k : Int) + 1)) false).run Try.prog w2.drew = .ok (.bool false) w2.drew := by
              have := BoM.look (w := w2.drew) (show BoM w2.drew q _ _ from hb2) HJ.out
              refine Eq.trans this ?_
              simp only [if_true]
            have HBX := Lib.hid hb2
            have OX := Lib.hid hoX
            clear hb2 hoX hblkX
            go_still_tail 14, (by kernel_rfl)
            change wpList _ _ _ _ _ w2.drew
            have hb3 : BoM w2.drew q _ _ := HBX.out
            go_wp2_with (at_mapUpdate; refine wpList_put_bo (w := w2.drew) rfl _ _ _ rfl q _ _ rfl hb3 ((k : Int) + 1) false rfl rfl HJ.out (by omega) ?_; intro w4 hb4 hg4)
            clear lk d4'
            go_wp2
            go_roundw
            case rel =>
              refine ⟨k + 1, by omega, by go_num, ?_, (OX.out.drew).grown hg4 (fun r hr => by cases hr; simp)⟩
              rw [put_twice, wF_step _ _ _ _ _ _ (by rw [if_pos e0, OK.out])] at hb4
              exact hb4
            case measure => simp [intOf]; omega
          · cases hcf : B.cf ((k : Int) + 1)
            · have hoX : Only [q] w w1 := O.out.trans (ho1.mono (by simp))
              have hblkX := hoX.heap HB.out (by simpa using hpq)
              have HCF := Lib.hid hcf
              have e0b : (B.done == 0) = false := by simpa using e0
              have E0 := Lib.hid e0
              clear d4 hcf e0
              go_wp2
              have d4' : w1.cell? ⟨pb, 4, none⟩ = some (.map (some q)) := (cell_of hblkX 4).trans (by rw [← hqq.out]; rfl)
              have lk : (Instr.lookup 77 (.map (some q)) (.int .i64 ((k : Int) + 1)) false).run Try.prog w1.drew = .ok (.bool false) w1.drew := by
                have := BoM.look (w := w1.drew) (show BoM w1.drew q _ _ from hb1) HJ.out
                refine Eq.trans this ?_
                rw [wF_at, HCF.out]
              have HBX := Lib.hid hb1
              have OX := Lib.hid hoX
              clear hb1 hoX hblkX
              go_still_tail 14, (by kernel_rfl)
              change wpList _ _ _ _ _ w1.drew
              have hb3 : BoM w1.drew q _ _ := HBX.out
              go_wp2_with (at_mapUpdate; refine wpList_put_bo (w := w1.drew) rfl _ _ _ rfl q _ _ rfl hb3 ((k : Int) + 1) false rfl rfl HJ.out (by omega) ?_; intro w4 hb4 hg4)
              clear lk d4'
              go_wp2
              go_roundw
              case rel =>
                refine ⟨k + 1, by omega, by go_num, ?_, (OX.out.drew).grown hg4 (fun r hr => by cases hr; simp)⟩
                rw [wF_step _ _ _ _ _ _ (by rw [if_neg E0.out, OK.out, HCF.out]; rfl)] at hb4
                exact hb4.mono (by omega)
              case measure => simp [intOf]; omega
            · have hoX : Only [q] w w1 := O.out.trans (ho1.mono (by simp))
              have hblkX := hoX.heap HB.out (by simpa using hpq)
              have HCF := Lib.hid hcf
              have e0b : (B.done == 0) = false := by simpa using e0
              have E0 := Lib.hid e0
              clear d4 hcf e0
              go_wp2
              have d4' : w1.cell? ⟨pb, 4, none⟩ = some (.map (some q)) := (cell_of hblkX 4).trans (by rw [← hqq.out]; rfl)
              have lk : (Instr.lookup 77 (.map (some q)) (.int .i64 ((k : Int) + 1)) false).run Try.prog w1.drew = .ok (.bool true) w1.drew := by
                have := BoM.look (w := w1.drew) (show BoM w1.drew q _ _ from hb1) HJ.out
                refine Eq.trans this ?_
                rw [wF_at, HCF.out]
              have HBX := Lib.hid hb1
              have OX := Lib.hid hoX
              clear hb1 hoX hblkX
              go_still_tail 14, (by kernel_rfl)
              change wpList _ _ _ _ _ w1.drew
              have hb3 : BoM w1.drew q _ _ := HBX.out
              go_wp2_with (at_mapUpdate; refine wpList_put_bo (w := w1.drew) rfl _ _ _ rfl q _ _ rfl hb3 ((k : Int) + 1) false rfl rfl HJ.out (by omega) ?_; intro w4 hb4 hg4)
              clear lk d4'
              go_wp2
              go_roundw
              case rel =>
                refine ⟨k + 1, by omega, by go_num, ?_, (OX.out.drew).grown hg4 (fun r hr => by cases hr; simp)⟩
                rw [wF_step _ _ _ _ _ _ (by rw [if_neg E0.out, OK.out, HCF.out]; rfl)] at hb4
                exact hb4.mono (by omega)
              case measure => simp [intOf]; omega
        · have ES := Lib.hid eS
          have E1 := Lib.hid e1
          clear e1 eS
          cases hh : hB S i ((k : Int) + 1)
          · have ok : okB S i ((k : Int) + 1) = true := by simp [okB, ES.out, E1.out, hh]
            have HH := Lib.hid hh
            clear hh
            go_wp2_with fail
            refine klen.mono ?_
            rintro e w1 ⟨rfl, rfl⟩
            go_wp2_with fail
            refine k22.mono ?_
            rintro e w0' ⟨rfl, ho0⟩
            have k19 := on19 (HAIR.out.only ho0 (by simp)) (HON.out.only ho0 (by simp)) ((k : Int) + 1) HJ.out
            rw [decide_eq_false ES.out] at k19
            have k37 := hearsBut37 (HAIR.out.only ho0 (by simp)) (HON.out.only ho0 (by simp)) HS.out ((k : Int) + 1) i (by omega)
            rw [HH.out] at k37
            clear k22 klen c0
            go_wp2_with fail
            refine k19.mono ?_
            rintro e w1' ⟨rfl, rfl⟩
            clear k19
            go_wp2_with fail
            refine k37.mono ?_
            rintro e w1 ⟨rfl, ho1'⟩
            have ho1 := ho0.trans ho1'
            clear k37 ho1' ho0
            have hblk1 := ho1.heap hblk (by simp)
            have d3 : w1.cell? ⟨pb, 3, none⟩ = some (.int .i64 B.done) := (cell_of hblk1 3).trans rfl
            have d4 : w1.cell? ⟨pb, 4, none⟩ = some (.map (some q)) := (cell_of hblk1 4).trans (by rw [← hqq.out]; rfl)
            have hb1 := BO.out.only ho1 (by simp)
            have OK := Lib.hid ok
            clear hblk hblk1 c3 c4 ok
            by_cases e0 : B.done = 0
            · go_wp2_with (at_mapUpdate; refine wpList_put_bo rfl _ _ _ rfl q _ _ rfl hb1 ((k : Int) + 1) true rfl rfl HJ.out (by omega) ?_; intro w2 hb2 hg2)
              have hoX : Only [q] w w2 := (O.out.trans (ho1.mono (by simp))).grown hg2 (fun r hr => by cases hr; simp)
              have hblkX := hoX.heap HB.out (by simpa using hpq)
              clear hb1 d3 d4 hg2
              have d4' : w2.cell? ⟨pb, 4, none⟩ = some (.map (some q)) := (cell_of hblkX 4).trans (by rw [← hqq.out]; rfl)
              have lk : (Instr.lookup 77 (.map (some q)) (.int .i64 ((k : Int) + 1)) false).run Try.prog w2.drew = .ok (.bool true) w2.drew := by
                have := BoM.look (w := w2.drew) (show BoM w2.drew q _ _ from hb2) HJ.out
                refine Eq.trans this ?_
                simp only [if_true]
              have HBX := Lib.hid hb2
              have OX := Lib.hid hoX
              clear hb2 hoX hblkX
              go_still_tail 14, (by kernel_rfl)
              change wpList _ _ _ _ _ w2.drew
              have hb3 : BoM w2.drew q _ _ := HBX.out
              go_wp2_with (at_mapUpdate; refine wpList_put_bo (w := w2.drew) rfl _ _ _ rfl q _ _ rfl hb3 ((k : Int) + 1) true rfl rfl HJ.out (by omega) ?_; intro w4 hb4 hg4)
              clear lk d4'
              go_wp2
              go_roundw
              case rel =>
                refine ⟨k + 1, by omega, by go_num, ?_, (OX.out.drew).grown hg4 (fun r hr => by cases hr; simp)⟩
                rw [put_twice, wF_step _ _ _ _ _ _ (by rw [if_pos e0, OK.out])] at hb4
                exact hb4
              case measure => simp [intOf]; omega
            · cases hcf : B.cf ((k : Int) + 1)
              · have hoX : Only [q] w w1 := O.out.trans (ho1.mono (by simp))
                have hblkX := hoX.heap HB.out (by simpa using hpq)
                have HCF := Lib.hid hcf
                have e0b : (B.done == 0) = false := by simpa using e0
                have E0 := Lib.hid e0
                clear d4 hcf e0
                go_wp2
                have d4' : w1.cell? ⟨pb, 4, none⟩ = some (.map (some q)) := (cell_of hblkX 4).trans (by rw [← hqq.out]; rfl)
                have lk : (Instr.lookup 77 (.map (some q)) (.int .i64 ((k : Int) + 1)) false).run Try.prog w1.drew = .ok (.bool false) w1.drew := by
                  have := BoM.look (w := w1.drew) (show BoM w1.drew q _ _ from hb1) HJ.out
                  refine Eq.trans this ?_
                  rw [wF_at, HCF.out]
                have HBX := Lib.hid hb1
                have OX := Lib.hid hoX
                clear hb1 hoX hblkX
                go_still_tail 14, (by kernel_rfl)
                change wpList _ _ _ _ _ w1.drew
                have hb3 : BoM w1.drew q _ _ := HBX.out
                go_wp2_with (at_mapUpdate; refine wpList_put_bo (w := w1.drew) rfl _ _ _ rfl q _ _ rfl hb3 ((k : Int) + 1) false rfl rfl HJ.out (by omega) ?_; intro w4 hb4 hg4)
                clear lk d4'
                go_wp2
                go_roundw
                case rel =>
                  refine ⟨k + 1, by omega, by go_num, ?_, (OX.out.drew).grown hg4 (fun r hr => by cases hr; simp)⟩
                  rw [wF_step _ _ _ _ _ _ (by rw [if_neg E0.out, OK.out, HCF.out]; rfl)] at hb4
                  exact hb4.mono (by omega)
                case measure => simp [intOf]; omega
              · have hoX : Only [q] w w1 := O.out.trans (ho1.mono (by simp))
                have hblkX := hoX.heap HB.out (by simpa using hpq)
                have HCF := Lib.hid hcf
                have e0b : (B.done == 0) = false := by simpa using e0
                have E0 := Lib.hid e0
                clear d4 hcf e0
                go_wp2
                have d4' : w1.cell? ⟨pb, 4, none⟩ = some (.map (some q)) := (cell_of hblkX 4).trans (by rw [← hqq.out]; rfl)
                have lk : (Instr.lookup 77 (.map (some q)) (.int .i64 ((k : Int) + 1)) false).run Try.prog w1.drew = .ok (.bool true) w1.drew := by
                  have := BoM.look (w := w1.drew) (show BoM w1.drew q _ _ from hb1) HJ.out
                  refine Eq.trans this ?_
                  rw [wF_at, HCF.out]
                have HBX := Lib.hid hb1
                have OX := Lib.hid hoX
                clear hb1 hoX hblkX
                go_still_tail 14, (by kernel_rfl)
                change wpList _ _ _ _ _ w1.drew
                have hb3 : BoM w1.drew q _ _ := HBX.out
                go_wp2_with (at_mapUpdate; refine wpList_put_bo (w := w1.drew) rfl _ _ _ rfl q _ _ rfl hb3 ((k : Int) + 1) true rfl rfl HJ.out (by omega) ?_; intro w4 hb4 hg4)
                clear lk d4'
                go_wp2
                go_roundw
                case rel =>
                  refine ⟨k + 1, by omega, by go_num, ?_, (OX.out.drew).grown hg4 (fun r hr => by cases hr; simp)⟩
                  rw [wF_step _ _ _ _ _ _ (by rw [if_neg E0.out, OK.out, HCF.out]; rfl)] at hb4
                  exact hb4.mono (by omega)
                case measure => simp [intOf]; omega
          · have ok : okB S i ((k : Int) + 1) = false := by simp [okB, ES.out, E1.out, hh]
            have HH := Lib.hid hh
            clear hh
            go_wp2_with fail
            refine klen.mono ?_
            rintro e w1 ⟨rfl, rfl⟩
            go_wp2_with fail
            refine k22.mono ?_
            rintro e w0' ⟨rfl, ho0⟩
            have k19 := on19 (HAIR.out.only ho0 (by simp)) (HON.out.only ho0 (by simp)) ((k : Int) + 1) HJ.out
            rw [decide_eq_false ES.out] at k19
            have k37 := hearsBut37 (HAIR.out.only ho0 (by simp)) (HON.out.only ho0 (by simp)) HS.out ((k : Int) + 1) i (by omega)
            rw [HH.out] at k37
            clear k22 klen c0
            go_wp2_with fail
            refine k19.mono ?_
            rintro e w1' ⟨rfl, rfl⟩
            clear k19
            go_wp2_with fail
            refine k37.mono ?_
            rintro e w1 ⟨rfl, ho1'⟩
            have ho1 := ho0.trans ho1'
            clear k37 ho1' ho0
            have hblk1 := ho1.heap hblk (by simp)
            have d3 : w1.cell? ⟨pb, 3, none⟩ = some (.int .i64 B.done) := (cell_of hblk1 3).trans rfl
            have d4 : w1.cell? ⟨pb, 4, none⟩ = some (.map (some q)) := (cell_of hblk1 4).trans (by rw [← hqq.out]; rfl)
            have hb1 := BO.out.only ho1 (by simp)
            have OK := Lib.hid ok
            clear hblk hblk1 c3 c4 ok
            by_cases e0 : B.done = 0
            · go_wp2_with (at_mapUpdate; refine wpList_put_bo rfl _ _ _ rfl q _ _ rfl hb1 ((k : Int) + 1) false rfl rfl HJ.out (by omega) ?_; intro w2 hb2 hg2)
              have hoX : Only [q] w w2 := (O.out.trans (ho1.mono (by simp))).grown hg2 (fun r hr => by cases hr; simp)
              have hblkX := hoX.heap HB.out (by simpa using hpq)
              clear hb1 d3 d4 hg2
              have d4' : w2.cell? ⟨pb, 4, none⟩ = some (.map (some q)) := (cell_of hblkX 4).trans (by rw [← hqq.out]; rfl)
              have lk : (Instr.lookup 77 (.map (some q)) (.int .i64 ((k : Int) + 1)) false).run Try.prog w2.drew = .ok (.bool false) w2.drew := by
                have := BoM.look (w := w2.drew) (show BoM w2.drew q _ _ from hb2) HJ.out
                refine Eq.trans this ?_
                simp only [if_true]
              have HBX := Lib.hid hb2
              have OX := Lib.hid hoX
              clear hb2 hoX hblkX
              go_still_tail 14, (by kernel_rfl)
              change wpList _ _ _ _ _ w2.drew
              have hb3 : BoM w2.drew q _ _ := HBX.out
              go_wp2_with (at_mapUpdate; refine wpList_put_bo (w := w2.drew) rfl _ _ _ rfl q _ _ rfl hb3 ((k : Int) + 1) false rfl rfl HJ.out (by omega) ?_; intro w4 hb4 hg4)
              clear lk d4'
              go_wp2
              go_roundw
              case rel =>
                refine ⟨k + 1, by omega, by go_num, ?_, (OX.out.drew).grown hg4 (fun r hr => by cases hr; simp)⟩
                rw [put_twice, wF_step _ _ _ _ _ _ (by rw [if_pos e0, OK.out])] at hb4
                exact hb4
              case measure => simp [intOf]; omega
            · cases hcf : B.cf ((k : Int) + 1)
              · have hoX : Only [q] w w1 := O.out.trans (ho1.mono (by simp))
                have hblkX := hoX.heap HB.out (by simpa using hpq)
                have HCF := Lib.hid hcf
                have e0b : (B.done == 0) = false := by simpa using e0
                have E0 := Lib.hid e0
                clear d4 hcf e0
                go_wp2
                have d4' : w1.cell? ⟨pb, 4, none⟩ = some (.map (some q)) := (cell_of hblkX 4).trans (by rw [← hqq.out]; rfl)
                have lk : (Instr.lookup 77 (.map (some q)) (.int .i64 ((k : Int) + 1)) false).run Try.prog w1.drew = .ok (.bool false) w1.drew := by
                  have := BoM.look (w := w1.drew) (show BoM w1.drew q _ _ from hb1) HJ.out
                  refine Eq.trans this ?_
                  rw [wF_at, HCF.out]
                have HBX := Lib.hid hb1
                have OX := Lib.hid hoX
                clear hb1 hoX hblkX
                go_still_tail 14, (by kernel_rfl)
                change wpList _ _ _ _ _ w1.drew
                have hb3 : BoM w1.drew q _ _ := HBX.out
                go_wp2_with (at_mapUpdate; refine wpList_put_bo (w := w1.drew) rfl _ _ _ rfl q _ _ rfl hb3 ((k : Int) + 1) false rfl rfl HJ.out (by omega) ?_; intro w4 hb4 hg4)
                clear lk d4'
                go_wp2
                go_roundw
                case rel =>
                  refine ⟨k + 1, by omega, by go_num, ?_, (OX.out.drew).grown hg4 (fun r hr => by cases hr; simp)⟩
                  rw [wF_step _ _ _ _ _ _ (by rw [if_neg E0.out, OK.out, HCF.out]; rfl)] at hb4
                  exact hb4.mono (by omega)
                case measure => simp [intOf]; omega
              · have hoX : Only [q] w w1 := O.out.trans (ho1.mono (by simp))
                have hblkX := hoX.heap HB.out (by simpa using hpq)
                have HCF := Lib.hid hcf
                have e0b : (B.done == 0) = false := by simpa using e0
                have E0 := Lib.hid e0
                clear d4 hcf e0
                go_wp2
                have d4' : w1.cell? ⟨pb, 4, none⟩ = some (.map (some q)) := (cell_of hblkX 4).trans (by rw [← hqq.out]; rfl)
                have lk : (Instr.lookup 77 (.map (some q)) (.int .i64 ((k : Int) + 1)) false).run Try.prog w1.drew = .ok (.bool true) w1.drew := by
                  have := BoM.look (w := w1.drew) (show BoM w1.drew q _ _ from hb1) HJ.out
                  refine Eq.trans this ?_
                  rw [wF_at, HCF.out]
                have HBX := Lib.hid hb1
                have OX := Lib.hid hoX
                clear hb1 hoX hblkX
                go_still_tail 14, (by kernel_rfl)
                change wpList _ _ _ _ _ w1.drew
                have hb3 : BoM w1.drew q _ _ := HBX.out
                go_wp2_with (at_mapUpdate; refine wpList_put_bo (w := w1.drew) rfl _ _ _ rfl q _ _ rfl hb3 ((k : Int) + 1) false rfl rfl HJ.out (by omega) ?_; intro w4 hb4 hg4)
                clear lk d4'
                go_wp2
                go_roundw
                case rel =>
                  refine ⟨k + 1, by omega, by go_num, ?_, (OX.out.drew).grown hg4 (fun r hr => by cases hr; simp)⟩
                  rw [wF_step _ _ _ _ _ _ (by rw [if_neg E0.out, OK.out, HCF.out]; rfl)] at hb4
                  exact hb4.mono (by omega)
                case measure => simp [intOf]; omega
    · obtain rfl : k = d.n := by omega
      have hkn : ¬ ((d.n : Int) + 1 ≤ (d.n : Int)) := by omega
      have O := Lib.hid ho
      have BO := Lib.hid hbo
      have fz := free_of hblk 3
      have HBL := Lib.hid hblk
      have wd : IntKind.i64.wrap (B.done + 1) = B.done + 1 := IntWalk.i64_in _ (by omega)
      clear ho hbo hair hblk c4
      go_wp2_with fail
      refine klen.mono ?_
      rintro e w1 ⟨rfl, rfl⟩
      go_wp2
      go_end0
      have oset : Only [pb] wr (wr.setCell ⟨pb, 3, none⟩ (.int .i64 (B.done + 1))) := (Only.refl [pb] wr).setCell (by simp) _
      refine ⟨rfl, ⟨⟨v, heap_set HBL.out 3 _, ?_⟩, ?_, ?_⟩, (O.out.mono (by simp)).trans (oset.mono (by simp))⟩
      · refine (HF.out.only O.out ?_).only oset ?_
        · intro x hx
          obtain rfl : x = q := by simpa using hx
          obtain ⟨es, c, hm⟩ := (HBU.out.cl1 _ hqq.out).isMap
          exact NoStr.map hm
        · intro x hx
          obtain rfl : x = pb := by simpa using hx
          exact NoStr.cells HBL.out (by decide)
      · intro e; rw [show (watchBu S d.n i B).q = B.q from rfl, hqq.out] at e; cases e
      · intro q' e
        rw [show (watchBu S d.n i B).q = B.q from rfl, hqq.out] at e
        cases e
        exact BO.out.only oset (by simpa using Ne.symm hpq)
end Go.Proofs.Ytommamngklobkaa
