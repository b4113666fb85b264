/- The reference's sender of package seq: Next, Acks, Open: what they return and leave (contracts). No conditions but those that each theorem names. -/
import Derived.Test.YtfloemimimkgaaaOu
namespace Go.Proofs.Ytfloemimimkgaaa
open Go.RowKit Go.Maps
set_option linter.unusedVariables false
/-- The reference's sender. -/
def ROut (w : World) (b : Nat) (m k : Int) (A O : Nat) : Prop := Four 71 w b m k O A
def R42 (w : World) (b : Nat) (m k : Int) (A : Nat) (r : Int × Int × Nat) (e : Ending) (w' : World) : Prop := e = .returned (.tuple #[.int .i64 r.1, .int .i64 r.2.1]) ∧ ROut w' b m k A r.2.2 ∧ Only [b] w w'
set_option maxHeartbeats 4000000 in
theorem rnext42 (b : Nat) (m k : Int) (A O : Nat) (w : World) (h : ROut w b m k A O) (hm8 : 8 ≤ m) (hm9 : m ≤ 128) (hA : A ≤ O) (hO : (O : Int) ≤ 100000) :
    Calls Try.prog 42 #[.pointer (some ⟨b, 0, none⟩)] w (R42 w b m k A (nxR k m A O)) := by
  have H := Lib.hid h
  have c1 := h.c1
  have c2 := h.c2
  have c3 := h.c3
  have f2 := h.f 2
  have ws : IntKind.i64.wrap ((O : Int) - A) = (O : Int) - A := IntWalk.i64_in _ (by omega)
  clear h
  unfold nxR
  by_cases hf : (O : Int) - A = k
  · rw [if_pos hf]
    have hfb : ((O : Int) - A == k) = true := by simpa using hf
    clear hf
    go_enter Try.func42, Try.ntmps42
    go_wp2_with fail
    go_quiet (fail)
    go_wp2
    go_ret2
    exact ⟨rfl, Four.drewN H.out nq, (Only.refl [b] w).drewN nq⟩
  · rw [if_neg hf]
    have hfb : ((O : Int) - A == k) = false := by simpa using hf
    clear hf
    go_enter Try.func42, Try.ntmps42
    go_wp2_with fail
    go_quiet (fail)
    clear ws
    go_wp2_with fail
    have h2 := (Four.drewN H.out nq).set2 (z := (O : Int) + 1)
    have q0 := h2.c0
    have q2 := h2.c2
    have ho2 : Only [b] w ((w.drewN nq).setCell ⟨b, 2, none⟩ (.int .i64 ((O : Int) + 1))) := ((Only.refl [b] w).drewN nq).setCell (by simp) _
    generalize (w.drewN nq).setCell ⟨b, 2, none⟩ (.int .i64 ((O : Int) + 1)) = w2 at *
    have ws : IntKind.i64.wrap ((O : Int) + 1 - 1) = (O : Int) := by rw [show (O : Int) + 1 - 1 = O by omega]; exact IntWalk.i64_in _ (by omega)
    have ws0 : (0 : Int) ≤ (O : Int) := by omega
    have wm : ¬ (m = 0) := by omega
    have wt : (O : Int).tmod m = (O : Int) % m := Int.tmod_eq_emod_of_nonneg ws0
    have wt2 : IntKind.i64.wrap ((O : Int) % m) = (O : Int) % m := IntWalk.i64_in _ (by have := Int.emod_lt_of_pos (O : Int) (by omega : 0 < m); have := Int.emod_nonneg (O : Int) (by omega : m ≠ 0); omega)
    go_quiet (fail)
    go_wp2
    go_ret2
    exact ⟨rfl, h2.drewN _, ho2.drewN _⟩
theorem num_next {A i x : Nat} (h : A + i = x) : Value.int .i64 ((x : Int) + 1) = .int .i64 ((A + (i + 1) : Nat) : Int) := by
  subst h; congr 1
def R44 (w : World) (b : Nat) (m k : Int) (O : Nat) (r : Int × Int × Nat) (e : Ending) (w' : World) : Prop := e = .returned (.tuple #[.int .i64 r.1, .int .i64 r.2.1]) ∧ ROut w' b m k r.2.2 O ∧ Only [b] w w'
theorem far_hit {m nr : Int} {A i : Nat} (hm : m = 8 ∨ m = 128) (h0 : 0 ≤ nr) (h1 : nr < m) (hi : (i : Int) < m) (h : ((A + i : Nat) : Int) % m = nr) : farI m ((A : Int) % m) nr = i := by
  have hok : ok2B m ((A : Int) % m) nr = true := by simp [ok2B, inB, modB]; rcases hm with rfl | rfl <;> omega
  rw [farI, if_pos hok]
  rcases hm with rfl | rfl <;> omega
set_option maxHeartbeats 4000000 in
theorem racks44 (b : Nat) (m k nr : Int) (A O : Nat) (w : World) (h : ROut w b m k A O) (hm : m = 8 ∨ m = 128) (hA : A ≤ O) (hO : (O : Int) - A < m) (hO2 : (O : Int) ≤ 100000) :
    Calls Try.prog 44 #[.pointer (some ⟨b, 0, none⟩), .int .i64 nr] w (R44 w b m k O (akR m A O nr)) := by
  have H := Lib.hid h
  have c0 := h.c0
  have c2 := h.c2
  have c3 := h.c3
  have f3 := h.f 3
  unfold akR
  cases hok : ok1B m nr
  · simp only [if_true]
    have hb : nr < 0 ∨ m ≤ nr := by
      have : modB m = true := by simp [modB]; exact hm
      simp [ok1B, inB, this] at hok; omega
    clear h hm hok
    by_cases h1 : nr < 0
    · clear hb
      go_enter Try.func44, Try.ntmps44
      go_wp2
      go_ret2
      exact ⟨rfl, H.out, Only.refl _ w⟩
    · have h2 : m ≤ nr := by omega
      clear hb
      go_enter Try.func44, Try.ntmps44
      go_wp2
      go_ret2
      exact ⟨rfl, H.out, Only.refl _ w⟩
  · simp only [Bool.true_eq_false, if_false]
    have hb : 0 ≤ nr ∧ nr < m := by simp [ok1B, inB, modB] at hok; omega
    have hfb := far_back (A := A) hm hb.1 hb.2
    obtain ⟨hb0, hb1⟩ := hb
    have hm8 : 8 ≤ m := by omega
    have hm9 : m ≤ 128 := by omega
    have HHIT := Lib.hid (fun (i : Nat) (hi : (i : Int) < m) (h : ((A + i : Nat) : Int) % m = nr) => far_hit hm hb0 hb1 hi h)
    have HM := Lib.hid hm
    generalize farI m ((A : Int) % m) nr = n at *
    obtain ⟨hn0, hn1, hn2⟩ := hfb
    have HN := Lib.hid hn2
    clear h hm hok hn2
    generalize hr : (if (O : Int) - A < n then ((0 : Int), (1 : Int), A) else (n, 0, A + n.toNat)) = r
    have HRR := Lib.hid hr
    clear hr
    go_enter Try.func44, Try.ntmps44
    go_wp2
    go_loopw [6] (fun x wr => w = wr ∧ ∃ i : Nat, (A : Int) + i ≤ O + 1 ∧ x = .int .i64 ((A + i : Nat) : Int) ∧ (i : Int) ≤ n) (fun x _ => O + 1 - (intOf x).toNat)
    case atStart => exact ⟨rfl, 0, by omega, rfl, by omega⟩
    case round =>
      obtain ⟨rfl, i, hi, rfl, hin⟩ := hrel
      by_cases hle : (A : Int) + i ≤ O
      · have him : (i : Int) < m := by omega
        have hle2 : ((A + i : Nat) : Int) ≤ (O : Int) := by omega
        have h0 : (0 : Int) ≤ ((A + i : Nat) : Int) := by omega
        by_cases heq : ((A + i : Nat) : Int) % m = nr
        · have hni := HHIT.out i him heq
          have hnle : n ≤ (O : Int) - A := by omega
          have hrr := HRR.out
          rw [if_neg (by omega)] at hrr
          have hnn : A + n.toNat = A + i := by omega
          rw [hnn] at hrr
          have HR2 := Lib.hid hrr
          clear hrr
          have hnv : ((A + i : Nat) : Int) - (A : Int) = n := by omega
          have HNV := Lib.hid hnv
          have heqb : ((((A + i : Nat) : Int) % m) == nr) = true := by simpa using heq
          have h2 := Four.set3 (z := ((A + i : Nat) : Int)) H.out
          clear heq hni hnle hnn hnv
          generalize hx : A + i = x at *
          clear hx
          go_wp2
          go_ret2
          unfold R44
          rw [← HR2.out]
          refine ⟨?_, h2, (Only.refl [b] w).setCell (by simp) _⟩
          simp only [HNV.out]
          rfl
        · have heqb : ((((A + i : Nat) : Int) % m) == nr) = false := by simpa using heq
          have hlt : (i : Int) < n := by
            have hne : (i : Int) ≠ n := by
              intro e
              apply heq
              have := HN.out
              rw [← e] at this
              rw [← this]; congr 1
            omega
          have HLT := Lib.hid (And.intro hlt hle)
          clear heq hlt hle
          generalize hx : A + i = x at *
          have HX := Lib.hid hx
          clear hx
          go_wp2
          go_roundw
          case rel => exact ⟨by first | rfl | trivial, i + 1, by have := HLT.out; omega, num_next HX.out, by have := HLT.out; omega⟩
          case measure => have := HLT.out; have := HX.out; simp [intOf]; omega
      · have hrr := HRR.out
        rw [if_pos (by omega)] at hrr
        have HR2 := Lib.hid hrr
        clear hrr
        have hgt : (O : Int) < ((A + i : Nat) : Int) := by omega
        clear hle
        generalize A + i = x at *
        go_wp2
        go_ret2
        unfold R44
        rw [← HR2.out]
        exact ⟨rfl, H.out, Only.refl _ w⟩
set_option maxHeartbeats 4000000 in
theorem ropen45 (b : Nat) (m k : Int) (A O : Nat) (w : World) (h : ROut w b m k A O) (hm : m = 8 ∨ m = 128) (hA : A ≤ O) (hO : (O : Int) - A < m) (hO2 : (O : Int) ≤ 100000) :
    Calls Try.prog 45 #[.pointer (some ⟨b, 0, none⟩)] w (P40 w (opn m A (O - A))) := by
  have H := Lib.hid h
  have c3 := (h.only ((Only.refl [] w).alloc (.cells #[] 3)) (by simp)).c3
  clear h
  have hm8 : 8 ≤ m := by omega
  have hm9 : m ≤ 128 := by omega
  clear hm
  go_enter Try.func45, Try.ntmps45
  go_wp2
  clear c3
  go_loopg [3, 4] (O - A) (fun n v x wr => ∃ i : Nat, i + n = O - A ∧ x = .int .i64 ((A + i : Nat) : Int) ∧ RowI wr w.heap.size v (opn m A i) ∧ Below w.heap.size w wr)
  case atStart => exact ⟨0, by omega, by simp, RowI.empty _ _ (Nat.le_refl _), below_new _ _⟩
  case round =>
    obtain ⟨i, hi, rfl, hrow, hb⟩ := hrel
    have hin : ROut wr b m k A O := Four.below H.out hb
    have hbl := Four.lt H.out
    have hbase := hb.size
    have d0 := hin.c0
    have d2 := hin.c2
    have HL := Lib.hid (opn_len m A i)
    by_cases hlt : i < O - A
    · have HI := Lib.hid (And.intro hlt hi)
      have hR : opn m A (i + 1) = opn m A i ++ [((A + i : Nat) : Int) % m] := rfl
      have HR := Lib.hid hR
      have hltx : ((A + i : Nat) : Int) < (O : Int) := by omega
      have h0 : (0 : Int) ≤ ((A + i : Nat) : Int) := by omega
      clear hlt hi hR
      generalize hx : A + i = x at *
      have HX := Lib.hid hx
      clear hx
      go_wp2_with (at_builtin; refine wpList_append_row rfl _ _ rfl w.heap.size u3 (opn m A i) ((x : Int) % m) rfl hrow rfl (by have := HL.out; have := HI.out; omega) hbase ?_; intro v' w1 hr1 hg1)
      go_roundg (gk - 1)
      case measure => have := HI.out; omega
      case rel =>
        have hbe1 : Below w.heap.size w w1 := (hb.alloc hbase _).grown hg1 (by simp; omega) hrow.own
        exact ⟨i + 1, by have := HI.out; omega, num_next HX.out, by rw [HR.out]; exact hr1, hbe1⟩
    · have hie : i = O - A := by omega
      rw [hie] at hrow ⊢
      have hve : ((A + (O - A) : Nat) : Int) = (O : Int) := by omega
      rw [hve]
      clear hlt hi hie hve HL
      go_wp2
      go_ret
      exact ⟨u3, rfl, hrow, hb⟩
end Go.Proofs.Ytfloemimimkgaaa
