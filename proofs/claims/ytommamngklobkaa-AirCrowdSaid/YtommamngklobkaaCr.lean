/- AirCrowd walked: it returns true for every input (contract). No conditions but that the numbers are of Go's kinds. -/
import Derived.Test.YtommamngklobkaaCt
namespace Go.Proofs.Ytommamngklobkaa
open Go.RowKit
set_option linter.unusedVariables false
theorem to_below {w w' : World} (h : Only [] w w') : Below w.heap.size w w' := ⟨h.os, h.tape, h.output, h.size, fun i hi => h.block i hi (by simp)⟩
set_option maxRecDepth 100000 in
set_option maxHeartbeats 8000000 in
theorem walk4 (a0 a1 : Int) (s : ByteArray) (w : World) (w0 : (Lit.int .u8 a0).wf = true) (w1 : (Lit.int .u16 a1).wf = true) (hsz : s.size ≤ maxLen) :
    Calls Try.prog 4 #[.int .u8 a0, .int .u16 a1, .string s] w fun e w' => e = .returned (.bool true) ∧ Below w.heap.size w w' := by
  have ⟨b0, b1⟩ := bounds_u8 w0
  have ⟨c0, c1⟩ := bounds_u16 w1
  unfold maxLen at hsz
  by_cases hs : 333 < s.size
  · have hs2 : (333 : Int) < (s.size : Int) := by omega
    go_enter Try.func4, Try.ntmps4
    go_wp2_with fail
    refine (awake15 _).mono ?_
    rintro e w1 ⟨rfl, ho⟩
    have O := Lib.hid ho
    clear ho
    go_wp2
    go_ret
    exact ⟨rfl, to_below O.out⟩
  · obtain ⟨m, hm⟩ : ∃ m : Nat, (m : Int) = 2 + a0 % 15 := ⟨(2 + a0 % 15).toNat, by omega⟩
    have hm2 : 2 ≤ m ∧ m ≤ 16 := by omega
    have hs2 : ¬ (333 : Int) < (s.size : Int) := by omega
    have kf := fun w => fresh14 m w (by omega) (by omega)
    rw [hm] at kf
    have HM := Lib.hid hm
    have HS := Lib.hid hs
    clear hs hm
    go_enter Try.func4, Try.ntmps4
    go_wp2_with fail
    refine (awake15 _).mono ?_
    rintro e w1 ⟨rfl, ho⟩
    have O1 := Lib.hid ho
    clear ho
    go_wp2_with fail
    refine (kf _).mono ?_
    rintro e w2 ⟨d, v2, v3, rfl, hd, hA, ho, hmo⟩
    have a0' := hA (fun _ => 0) (fun _ => 0) (fun _ => newBu 0 0 [])
    have O2 := Lib.hid (O1.out.trans ho)
    have MO := Lib.hid (Nat.le_trans O1.out.size hmo)
    have loK : d.mo < d.K := by have := a0'.st.lo; omega
    have D := Lib.hid hd
    clear kf hA ho hmo hd O1
    go_wp2
    generalize 2 + a0 % 15 = mm at *
    go_loopw [11, 12] (fun c i wr => ∃ (k : Nat) (S : List Int) (p : Int → Nat) (B : Int → Bu), k ≤ m ∧ i = .int .i64 ((k : Int) + 1) ∧ c = .int .i64 (S.length : Nat) ∧ AirW wr d S p (fun _ => 0) B ∧ (∀ x ∈ S, B x = newBu 0 0 [s] ∧ x ≤ k) ∧ S.length ≤ k ∧ Fr d.K d.mo w2 wr) (fun _ i _ => m + 1 - (intOf i).toNat)
    case atStart => exact ⟨0, [], _, _, by omega, rfl, rfl, a0', by simp, by simp, Fr.refl _ _ _⟩
    case round =>
      clear a0'
      obtain ⟨k, S, p, B, hk, rfl, rfl, ha, hB, hSk, hf⟩ := hrel
      by_cases hlt : k < m
      · have hkn : (k : Int) + 1 ≤ mm := by have := HM.out; omega
        have A := Lib.hid ha
        have BB := Lib.hid hB
        have F := Lib.hid hf
        have hnS : ((k : Int) + 1) ∉ S := fun hx => by have := (hB _ hx).2; omega
        have k15 := send15 (ha.same ((Only.refl [] wr).alloc (.cells #[.string s] 9))) ((k : Int) + 1) 0 0 (by have := D.out; omega) hnS (by omega) (by omega) (StrR.one wr s) (by have := HS.out; simp; omega) (by simp) (by simp) (by omega)
        have hsl : (S.length : Int) ≤ 16 := by omega
        clear ha hB hf hnS
        go_wp2_with fail
        · refine k15.mono ?_
          rintro e w3 ⟨pb, rfl, ha3, hf3⟩
          have A3 := Lib.hid ha3
          have F3 := Lib.hid ((F.out.only ((Only.refl [] wr).alloc (.cells #[.string s] 9)) (by simp)).trans hf3)
          clear ha3 hf3 k15
          go_wp2
          go_roundw
          case rel =>
            refine ⟨k + 1, ((k : Int) + 1) :: S, _, _, by omega, by go_num, by rw [List.length_cons]; go_num, A3.out, fun x hx => ?_, by simp; omega, F3.out⟩
            rcases List.mem_cons.1 hx with rfl | h
            · exact ⟨by simp, by omega⟩
            · have := BB.out x h
              have hne : ¬ x = (k : Int) + 1 := by omega
              exact ⟨by simp only [if_neg hne]; exact this.1, by omega⟩
          case measure => simp [intOf]; omega
        · clear k15
          go_roundw
          case rel => exact ⟨k + 1, S, _, _, by omega, by go_num, rfl, A.out, fun x hx => ⟨(BB.out x hx).1, by have := (BB.out x hx).2; omega⟩, by omega, F.out⟩
          case measure => simp [intOf]; omega
      · obtain rfl : k = m := by omega
        have hkn : ¬ ((k : Int) + 1 ≤ mm) := by have := HM.out; omega
        have A := Lib.hid ha
        have hlen := Lib.hid (And.intro ha.on.nodup ha.sub)
        have F := Lib.hid hf
        have C0 : Cr S d.n (fun _ => s) 0 B := Cr.start (fun x hx => (hB x hx).1)
        have I0 : CrowdI d S s 0 0 wr := Or.inl ⟨by have := longI_bd (s := s) (by have := HS.out; omega); omega, rfl, p, B, 0, ha, C0, by omega⟩
        have hs333 : s.size ≤ 333 := by omega
        have LB := longI_bd hs333
        have hdK := Lib.hid (by have := ha.st.lo; omega : d.mo < d.K)
        clear ha hB hf hlt C0
        go_wp2
        have k16 := fun w => long16 s w (by unfold maxLen; omega)
        obtain ⟨w5, hw5⟩ : ∃ w5, w5 = wr := ⟨_, rfl⟩
        have W5 := Lib.hid hw5
        clear hw5
        have DN := Lib.hid (A.out.st.n16)
        go_loopw [13, 14] (fun c i wr => ∃ (t : Nat) (n : Int), (t : Int) ≤ longI s ∧ i = .int .i64 t ∧ c = .int .i64 n ∧ 0 ≤ n ∧ n ≤ 256 ∧ CrowdI d S s t n wr ∧ Fr d.K d.mo w2 wr) (fun _ i _ => 10 - (intOf i).toNat)
        case atStart => exact ⟨0, 0, by omega, rfl, rfl, by omega, by omega, I0, F.out⟩
        case round =>
          clear I0
          obtain ⟨t, n, ht, rfl, rfl, hn0, hn1, hI, hf⟩ := hrel
          obtain ⟨w6, rfl⟩ : ∃ w6 : World, w6 = wr := ⟨_, rfl⟩
          by_cases hlt : (t : Int) < longI s
          · have k17 := crowd_tick hI hs333 hlt hlen.out.1 hlen.out.2
            have F6 := Lib.hid hf
            have hn00 : n = 0 := by
              rcases hI with ⟨_, h, _⟩ | ⟨h, _⟩
              · exact h
              · omega
            subst hn00
            clear hI hf
            go_wp2_with fail
            refine (k16 _).mono ?_
            rintro e w7 ⟨rfl, rfl⟩
            go_wp2_with fail
            refine k17.mono ?_
            rintro e w8 ⟨v, gs, rfl, hg, hgs, hgl, hI8, hf8⟩
            obtain ⟨a, cap, rfl, hcap, hmax, hcells⟩ := hg.at
            unfold maxLen at hmax
            have HC := Lib.hid hcells
            have HGS := Lib.hid hgs
            have HI8 := Lib.hid hI8
            have F8 := Lib.hid (F6.out.trans hf8)
            clear k17 hg hgs hI8 hf8 hcells
            go_wp2
            go_loopw [13, 64] (fun c i wr => ∃ j : Nat, j ≤ gs.length ∧ i = .int .i64 j ∧ c = .int .i64 j ∧ Only [] w8 wr) (fun _ i _ => gs.length - (intOf i).toNat)
            case atStart => exact ⟨0, Nat.zero_le _, rfl, rfl, Only.refl _ _⟩
            case round =>
              obtain ⟨j, hj, rfl, rfl, ho⟩ := hrel
              by_cases hlj : j < gs.length
              · obtain ⟨g, rfl, q0, q1, q2, q3⟩ := HC.out j hlj
                rw [HGS.out _ (List.getElem_mem hlj)] at q2
                have keep : ∀ o x, w8.cell? ⟨g, o, none⟩ = some x → wr.cell? ⟨g, o, none⟩ = some x := fun o x hx => (World.cell?_of_block (a := ⟨g, o, none⟩) (ho.block g (cell_lt hx) (by simp))).trans hx
                have r0 := keep _ _ q0
                have r1 := keep _ _ q1
                have r2 := keep _ _ q2
                have r3 := keep _ _ q3
                have O := Lib.hid ho
                clear keep q0 q1 q2 q3 ho
                generalize gs[j].f = gf at *
                generalize gs[j].t = gt at *
                go_wp2
                go_roundw
                case rel => exact ⟨j + 1, by omega, by go_num, by go_num, O.out.alloc _⟩
                case measure => simp [intOf]; omega
              · obtain rfl : j = gs.length := by omega
                have I9 := Lib.hid (HI8.out.only ho)
                have F9 := Lib.hid (F8.out.trans (Fr.of_only ho (by simp)))
                clear ho
                go_wp2
                go_roundw
                case rel => exact ⟨t + 1, _, by omega, by go_num, rfl, by omega, by omega, I9.out, F9.out⟩
                case measure => simp [intOf]; omega
          · have hte : (t : Int) = longI s := by omega
            rcases hI with ⟨h, _⟩ | ⟨_, hw, p', N', B', ha⟩
            · exact absurd h hlt
            have k18 := quiet18 ha.st ha.on
            rw [show (((([] : List Int).length : Nat) : Int) == 0) = true from rfl] at k18
            have F9 := Lib.hid hf
            have WW := Lib.hid hw
            have DD := Lib.hid (D.out)
            clear hf ha hw
            by_cases h1 : S.length = 1
            · have h2 : ((S.length : Nat) : Int) = 1 := by omega
              have hn : n = mm - 1 := by have h3 := WW.out; unfold want at h3; rw [if_pos h1] at h3; have := HM.out; have := D.out; omega
              have hnn : (n == mm - 1) = true := by simpa using hn
              have hma : 2 ≤ mm := by have := HM.out; omega
              have hmb : mm ≤ 16 := by have := HM.out; omega
              clear h1 hn
              go_wp2_with fail
              refine (k16 _).mono ?_
              rintro e w7 ⟨rfl, rfl⟩
              go_wp2_with fail
              refine k18.mono ?_
              rintro e w7 ⟨rfl, rfl⟩
              clear k18 k16
              go_wp2
              go_ret
              exact ⟨by simp, to_below (Fr.to_only O2.out F9.out MO.out loK)⟩
            · have h2 : ¬ ((S.length : Nat) : Int) = 1 := by omega
              have hn : n = 0 := by have h3 := WW.out; unfold want at h3; rw [if_neg h1] at h3; exact h3
              subst hn
              clear h1
              go_wp2_with fail
              refine (k16 _).mono ?_
              rintro e w7 ⟨rfl, rfl⟩
              go_wp2_with fail
              refine k18.mono ?_
              rintro e w7 ⟨rfl, rfl⟩
              clear k18 k16
              go_wp2
              go_ret
              exact ⟨by simp, to_below (Fr.to_only O2.out F9.out MO.out loK)⟩
end Go.Proofs.Ytommamngklobkaa
