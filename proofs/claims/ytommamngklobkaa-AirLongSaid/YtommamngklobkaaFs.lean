/- The air over so many stations, made: air.New, Fresh (contracts). No conditions but those that each theorem names. -/
import Derived.Test.YtommamngklobkaaSd
namespace Go.Proofs.Ytommamngklobkaa
open Go.RowKit
set_option linter.unusedVariables false
def FreshA (w w' : World) (d : Id) : Prop := (∀ p N B, AirW w' d [] p N B) ∧ Only [] w w' ∧ w.heap.size ≤ d.mo
def NewP (w : World) (b n : Nat) (e : Ending) (w' : World) : Prop := ∃ d, e = .returned (.tuple #[.pointer (some ⟨d.A, 0, none⟩), .int .i64 0]) ∧ d.n = n ∧ FreshA w w' d
theorem anew30 {w : World} {b s m n : Nat} {cs : Array Value} (h : PlW w b s m n cs) (hst : ∀ i, i < n → ∃ x y, StW cs i ((i : Int) + 1) 0 x y 100) :
    Calls Try.prog 30 #[.pointer (some ⟨b, 0, none⟩)] w (NewP w b n) := by
  have hmm := @run_makeMap Try.prog
  have H := Lib.hid h
  have HS := Lib.hid hst
  clear h hst
  go_enter Try.func30, Try.ntmps30
  go_wp2
  go_ret2
  have o1 : Only [] w (((w.alloc (.map #[] 0)).alloc (.map #[] 0)).alloc (.cells #[.pointer (some ⟨b, 0, none⟩), .map (some w.heap.size), .map (some (w.heap.size + 1))] 83)) := (((Only.refl [] w).alloc _).alloc _).alloc _
  have h0 := heap_old (heap_old (heap_new w (.map #[] 0)) (.map #[] 0)) (.cells #[.pointer (some ⟨b, 0, none⟩), .map (some w.heap.size), .map (some (w.heap.size + 1))] 83)
  have h1 := heap_old (heap_new (w.alloc (.map #[] 0)) (.map #[] 0)) (.cells #[.pointer (some ⟨b, 0, none⟩), .map (some w.heap.size), .map (some (w.heap.size + 1))] 83)
  have h2 := heap_new ((w.alloc (.map #[] 0)).alloc (.map #[] 0)) (.cells #[.pointer (some ⟨b, 0, none⟩), .map (some w.heap.size), .map (some (w.heap.size + 1))] 83)
  simp only [World.size_alloc] at h1 h2
  have hl := H.out.lt
  refine ⟨⟨w.heap.size + 1 + 1, b, s, m, w.heap.size, w.heap.size + 1, n, w.heap.size + 3, cs⟩, rfl, rfl, fun p N B => ?_, o1, Nat.le_refl _⟩
  have hon : OnM (w.alloc (.map #[] 0)) w.heap.size [] p := OnM.made w p
  refine ⟨⟨h2, H.out.only o1 (by simp) (by simp) (by simp), HS.out, h1, ?_, ?_⟩, hon.only (((Only.refl [] _).alloc _).alloc _) (by simp), by simp, by simp, by simp, by simp, by simp⟩
  · refine ⟨?_, ?_, ?_, ?_, ?_, ?_, ?_⟩ <;> simp <;> omega
  · refine ⟨?_, ?_, ?_, ?_, ?_⟩ <;> simp <;> omega
def FreshP (w : World) (n : Nat) (e : Ending) (w' : World) : Prop := ∃ d v2 v3, e = .returned (.tuple #[.pointer (some ⟨d.A, 0, none⟩), v2, v3]) ∧ d.n = n ∧ FreshA w w' d
/-- The plane while its stations are set: the first k of them stand. -/
structure Half (w : World) (b s m n : Nat) (k : Nat) (cs : Array Value) : Prop where
  pl : PlW w b s m n cs
  st : ∀ i, i < k → ∃ x y, StW cs i ((i : Int) + 1) 0 x y 100
  no : ∀ i, k ≤ i → i < n → cs[i * 2]? = some (.complex .f64 0 0) ∧ cs[i * 2 + 1]? = some (.int .i64 0)
theorem Half.step {w w' : World} {b s m n k : Nat} {cs : Array Value} {x : Nat} (h : Half w b s m n k cs) (hk : k < n) (hp : PlW w' b s m n ((cs.setIfInBounds (k * 2) (.complex .f64 x 0)).setIfInBounds (k * 2 + 1) (.int .i64 100))) (hx : FI ((k : Int) + 1) x) :
    Half w' b s m n (k + 1) ((cs.setIfInBounds (k * 2) (.complex .f64 x 0)).setIfInBounds (k * 2 + 1) (.int .i64 100)) := by
  have hz := h.pl.size
  refine ⟨hp, fun i hi => ?_, fun i h1 h2 => ?_⟩
  · by_cases e : i = k
    · subst e; exact ⟨x, 0, StW.put (by omega) ⟨hx, FI_zero⟩⟩
    · obtain ⟨a, c, hs⟩ := h.st i (by omega)
      exact ⟨a, c, hs.keep _ _ e⟩
  · have := put_other (cs := cs) (j := k) (i := i) (.complex .f64 x 0) (.int .i64 100) (by omega)
    rw [this.1, this.2]
    exact h.no i (by omega) h2
theorem RfW.s_ne {w : World} {b x y r n s : Nat} (h : RfW w b x y r n) {cs : Array Value} {t : TypeId} (hs : w.heap[s]? = some (.cells cs t (0, 0))) (h1 : t ≠ 94) (h2 : t ≠ 3) : b ∉ [s] ∧ x ∉ [s] ∧ y ∉ [s] ∧ r ∉ [s] := by
  obtain ⟨c0, e0, _⟩ := h.blk
  obtain ⟨c1, e1, _⟩ := h.rx
  obtain ⟨c2, e2, _⟩ := h.ry
  obtain ⟨c3, e3, _⟩ := h.rr
  refine ⟨?_, ?_, ?_, ?_⟩ <;> intro he <;> simp at he <;> subst he
  · exact h1 (heap_type hs e0)
  · exact h2 (heap_type hs e1)
  · exact h2 (heap_type hs e2)
  · exact h2 (heap_type hs e3)
set_option maxRecDepth 100000 in
set_option maxHeartbeats 4000000 in
theorem fresh14 (n : Nat) (w : World) (h1 : 1 ≤ n) (h2 : n ≤ 16) : Calls Try.prog 14 #[.int .i64 n] w (FreshP w n) := by
  go_enter Try.func14, Try.ntmps14
  go_wp2_with fail
  refine (new7 n _ h1 h2).mono ?_
  rintro e w1 ⟨rfl, ⟨cs, hp, hc⟩, ho⟩
  have hlt := hp.lt
  have O1 := Lib.hid ho
  have HP := Lib.hid hp
  have HC := Lib.hid hc
  clear ho hp hc
  go_wp2_with fail
  refine (rnew28 n _ h1 h2).mono ?_
  rintro e w2 ⟨rb, rx, ry, rr, rfl, hr, ho, z1, z2, z3⟩
  have hst : Half w2 (w.heap.size + 2) w.heap.size (w.heap.size + 1) n 0 cs := ⟨HP.out.only ho (by simp) (by simp) (by simp), fun i hi => by omega, fun i _ hi => HC.out i hi⟩
  have O2 := Lib.hid (O1.out.trans ho)
  have q1 : w.heap.size + 2 ∉ [rx, ry, rr] ∧ w.heap.size ∉ [rx, ry, rr] ∧ w.heap.size + 1 ∉ [rx, ry, rr] := by
    refine ⟨?_, ?_, ?_⟩ <;> simp <;> omega
  have Q1 := Lib.hid q1
  have z4 : w.heap.size ≤ rx ∧ w.heap.size ≤ ry ∧ w.heap.size ≤ rr := by omega
  have Z4 := Lib.hid z4
  have hs0 : w.heap.size ≤ w.heap.size := Nat.le_refl _
  have SS := Lib.hid hs0
  clear ho O1 HP HC hlt z1 z2 z3 q1 z4 hs0
  generalize w.heap.size + 2 = b at *
  generalize w.heap.size + 1 = m at *
  obtain ⟨s, hs⟩ : ∃ s, s = w.heap.size := ⟨_, rfl⟩
  rw [← hs] at hst Q1
  have HSE := Lib.hid hs
  clear hs
  go_wp2
  go_loopw [8] (fun i wr => ∃ k : Nat, k ≤ n ∧ i = .int .i64 ((k : Int) + 1) ∧ (∃ cs, Half wr b s m n k cs) ∧ RfW wr rb rx ry rr n ∧ Only [] w wr) (fun i _ => n + 1 - (intOf i).toNat)
  case atStart => exact ⟨0, by omega, rfl, ⟨cs, hst⟩, hr, O2.out⟩
  case round =>
    clear hst hr
    obtain ⟨k, hk, rfl, ⟨cs, hh⟩, hr, ho⟩ := hrel
    by_cases hlt : k < n
    · have hkn : (k : Int) + 1 ≤ (n : Int) := by omega
      have hno := hh.no k (Nat.le_refl _) hlt
      have hfi : FI ((k : Int) + 1) (floatOfInt .f64 ((k : Int) + 1)) := FI_int _ (by omega)
      have k8 := stand8 b s m n k cs ((k : Int) + 1) 0 100 0 (floatOfInt .f64 ((k : Int) + 1)) 0 _ wr hh.pl hno.1 hno.2 ⟨hfi, FI_zero⟩ hlt (wiB_yes (by omega) (by omega)) (by omega) (by omega)
      have RN := Lib.hid (hr.s_ne hh.pl.row (by decide) (by decide))
      have HH := Lib.hid hh
      have HR := Lib.hid hr
      have O := Lib.hid ho
      have HF := Lib.hid hfi
      clear hno hh hr ho hfi
      go_wp2_with fail
      refine k8.mono ?_
      rintro e w3 ⟨rfl, hp3, ho3⟩
      have hr3 := HR.out.only ho3 RN.out.1 RN.out.2.1 RN.out.2.2.1 RN.out.2.2.2
      have k29 := rstand29 rb rx ry rr n k (floatOfInt .f64 ((k : Int) + 1)) 0 ((k : Int) + 1) 0 w3 hr3 hlt HF.out FI_zero (by omega) (by omega) (by omega) (by omega)
      have H3 := Lib.hid (HH.out.step hlt hp3 HF.out)
      have O3 := Lib.hid (O.out.trans_new ho3 (by have := HSE.out; simp; omega))
      clear k8 hp3 ho3 hr3
      go_wp2_with fail
      refine k29.mono ?_
      rintro e w4 ⟨rfl, hr4, ho4⟩
      have H4 : Half w4 b s m n (k + 1) _ := ⟨H3.out.pl.only ho4 Q1.out.1 Q1.out.2.1 Q1.out.2.2, H3.out.st, H3.out.no⟩
      have HH4 := Lib.hid H4
      have HR4 := Lib.hid hr4
      have O4 := Lib.hid (O3.out.trans_new ho4 (fun y hy => Or.inr (by have := Z4.out; simp at hy; omega)))
      clear k29 H4 hr4 ho4
      go_wp2
      go_roundw
      case rel => exact ⟨k + 1, by omega, by go_num, ⟨_, HH4.out⟩, HR4.out, O4.out⟩
      case measure => simp [intOf]; omega
    · obtain rfl : k = n := by omega
      have hkn : ¬ ((k : Int) + 1 ≤ (k : Int)) := by omega
      have k30 := anew30 hh.pl hh.st
      have O := Lib.hid ho
      clear hh hr ho
      go_wp2_with fail
      refine k30.mono ?_
      rintro e w3 ⟨d, rfl, hd, ha, ho3, hm3⟩
      have A3 := Lib.hid ha
      have O3 := Lib.hid (O.out.trans ho3)
      have D3 := Lib.hid hd
      have M3 := Lib.hid (Nat.le_trans O.out.size hm3)
      clear k30 ha ho3 hm3 hd
      go_wp2
      go_ret3
      exact ⟨d, _, _, rfl, D3.out, (fun p N B => (A3.out p N B).same ((Only.refl [] _).alloc _)), (O3.out.alloc _), M3.out⟩
end Go.Proofs.Ytommamngklobkaa
