/- The sender of package seq: NewOut, open, Next, Acks, Open, Back, Va, Vs: what they return and leave (contracts). No conditions but those that each theorem names. -/
import Derived.Test.YtfloemimimkgaaaTt
namespace Go.Proofs.Ytfloemimimkgaaa
open Go.RowKit Go.Maps
set_option linter.unusedVariables false

/-- Four ints in one block: a sender's window (81), the reference's (71). -/
def Four (t : TypeId) (w : World) (b : Nat) (m k x y : Int) : Prop := w.heap[b]? = some (.cells #[.int .i64 m, .int .i64 k, .int .i64 x, .int .i64 y] t (0, 0))
theorem Four.lt {t : TypeId} {w : World} {b : Nat} {m k x y : Int} (h : Four t w b m k x y) : b < w.heap.size := heap_lt h
theorem Four.c0 {t : TypeId} {w : World} {b : Nat} {m k x y : Int} (h : Four t w b m k x y) : w.cell? ⟨b, 0, none⟩ = some (.int .i64 m) := by rw [cell_of h]; rfl
theorem Four.c1 {t : TypeId} {w : World} {b : Nat} {m k x y : Int} (h : Four t w b m k x y) : w.cell? ⟨b, 1, none⟩ = some (.int .i64 k) := by rw [cell_of h]; rfl
theorem Four.c2 {t : TypeId} {w : World} {b : Nat} {m k x y : Int} (h : Four t w b m k x y) : w.cell? ⟨b, 2, none⟩ = some (.int .i64 x) := by rw [cell_of h]; rfl
theorem Four.c3 {t : TypeId} {w : World} {b : Nat} {m k x y : Int} (h : Four t w b m k x y) : w.cell? ⟨b, 3, none⟩ = some (.int .i64 y) := by rw [cell_of h]; rfl
theorem Four.f {t : TypeId} {w : World} {b : Nat} {m k x y : Int} (h : Four t w b m k x y) (o : Nat) : w.frozen? ⟨b, o, none⟩ = false := free_of h o
theorem Four.only {t : TypeId} {w w' : World} {b : Nat} {m k x y : Int} {L : List Nat} (h : Four t w b m k x y) (ho : Only L w w') (hL : b ∉ L) : Four t w' b m k x y := ho.heap h hL
theorem Four.below {t : TypeId} {w w' : World} {b : Nat} {m k x y : Int} (h : Four t w b m k x y) (ho : Below w.heap.size w w') : Four t w' b m k x y := h.only (Only.of_below ho) (by simp)
theorem Four.drewN {t : TypeId} {w : World} {b : Nat} {m k x y : Int} (h : Four t w b m k x y) (n : Nat) : Four t (w.drewN n) b m k x y := h
theorem Four.drew {t : TypeId} {w : World} {b : Nat} {m k x y : Int} (h : Four t w b m k x y) : Four t w.drew b m k x y := h
theorem Four.set2 {t : TypeId} {w : World} {b : Nat} {m k x y z : Int} (h : Four t w b m k x y) : Four t (w.setCell ⟨b, 2, none⟩ (.int .i64 z)) b m k z y := by
  have := heap_set h 2 (.int .i64 z); simpa [Four] using this
theorem Four.set3 {t : TypeId} {w : World} {b : Nat} {m k x y z : Int} (h : Four t w b m k x y) : Four t (w.setCell ⟨b, 3, none⟩ (.int .i64 z)) b m k x z := by
  have := heap_set h 3 (.int .i64 z); simpa [Four] using this
theorem Four.grown {t : TypeId} {w w' : World} {b : Nat} {m k x y : Int} {r : Option Nat} (h : Four t w b m k x y) (hg : w.grownBy w' r) (base : Nat) (hr : ∀ k, r = some k → base ≤ k) (hb : b < base) : Four t w' b m k x y := by
  cases r with
  | none => exact h.only ((Only.refl [] w).grown hg (fun k hk => by cases hk)) (by simp)
  | some g => have := hr g rfl; exact h.only ((Only.refl [g] w).grown hg (fun k hk => by cases hk; simp)) (by simp; omega)

set_option maxHeartbeats 2000000 in
theorem newOut38 (m k : Int) (w : World) (hm : modB m = true) (h0 : 1 ≤ k) (h1 : k < m) :
    Calls Try.prog 38 #[.int .i64 m, .int .i64 k] w fun e w' => e = .returned (.tuple #[.pointer (some ⟨w.heap.size, 0, none⟩), .int .i64 0]) ∧ w.alloc (.cells #[.int .i64 m, .int .i64 k, .int .i64 0, .int .i64 0] 81) = w' := by
  have k50 := mod50 m w
  rw [hm] at k50
  clear hm
  go_enter Try.func38, Try.ntmps38
  go_wp2_with (go_at_call 50; refine k50.mono ?_; rintro e w1 ⟨rfl, rfl⟩)
  go_ret2
  exact ⟨rfl, rfl⟩
set_option maxHeartbeats 2000000 in
theorem newOut38_no (m k : Int) (w : World) (h : ¬ ((m = 8 ∨ m = 128) ∧ 1 ≤ k ∧ k < m)) :
    Calls Try.prog 38 #[.int .i64 m, .int .i64 k] w fun e w' => e = .returned (.tuple #[.pointer none, .int .i64 1]) ∧ w = w' := by
  have k50 := mod50 m w
  by_cases hm : modB m = true
  · have hm2 := modB_or m hm
    rw [hm] at k50
    by_cases h0 : k < 1
    · clear hm2 hm h
      go_enter Try.func38, Try.ntmps38
      go_wp2_with (go_at_call 50; refine k50.mono ?_; rintro e w1 ⟨rfl, rfl⟩)
      go_ret2
      exact ⟨rfl, rfl⟩
    · have h1 : m ≤ k := by omega
      clear hm2 hm h
      go_enter Try.func38, Try.ntmps38
      go_wp2_with (go_at_call 50; refine k50.mono ?_; rintro e w1 ⟨rfl, rfl⟩)
      go_ret2
      exact ⟨rfl, rfl⟩
  · have hm2 : modB m = false := by simpa using hm
    rw [hm2] at k50
    clear hm2 hm h
    go_enter Try.func38, Try.ntmps38
    go_wp2_with (go_at_call 50; refine k50.mono ?_; rintro e w1 ⟨rfl, rfl⟩)
    go_ret2
    exact ⟨rfl, rfl⟩
theorem far_open {m : Int} {A O : Nat} (hm : m = 8 ∨ m = 128) (h : A ≤ O) (h2 : ((O : Int) - A) < m) : farI m ((A : Int) % m) ((O : Int) % m) = (O : Int) - A := by
  rw [farI, if_pos (by simp [ok2B, inB, modB]; rcases hm with rfl | rfl <;> omega)]
  rcases hm with rfl | rfl <;> omega
theorem far_is {m a c r : Int} (h : farI m a c = r) (w : World) : Calls Try.prog 25 #[.int .i64 m, .int .i64 a, .int .i64 c] w fun e w' => e = .returned (.int .i64 r) ∧ Below w.heap.size w w' := h ▸ far25 m a c w
/-- A sender's window: A acknowledged ever, O opened ever. -/
def OutW (w : World) (b : Nat) (m k : Int) (A O : Nat) : Prop := Four 81 w b m k ((A : Int) % m) ((O : Int) % m)
set_option maxHeartbeats 2000000 in
theorem open51 (b : Nat) (m k : Int) (A O : Nat) (w : World) (h : OutW w b m k A O) (hm : m = 8 ∨ m = 128) (hA : A ≤ O) (hO : ((O : Int) - A) < m) :
    Calls Try.prog 51 #[.pointer (some ⟨b, 0, none⟩)] w fun e w' => e = .returned (.int .i64 ((O : Int) - A)) ∧ Below w.heap.size w w' := by
  have H := Lib.hid h
  have c0 := h.c0
  have c2 := h.c2
  have c3 := h.c3
  have HF := Lib.hid (far_is (far_open hm hA hO))
  clear h hm
  unfold OutW at H
  generalize (O : Int) - A = d at *
  generalize (A : Int) % m = va at *
  generalize (O : Int) % m = vs at *
  go_enter Try.func51, Try.ntmps51
  go_wp2_with fail
  go_region_held3 (fun w' => w'.cell? ⟨b, 0, none⟩ = some (.int .i64 m) ∧ w'.cell? ⟨b, 2, none⟩ = some (.int .i64 va) ∧ w'.cell? ⟨b, 3, none⟩ = some (.int .i64 vs))
    (first | exact ⟨c0, c2, c3⟩ | exact ⟨h5.c0, h5.c2, h5.c3⟩ | go_keep)
    ((go_at_call 25; refine (HF.out _).mono ?_; rintro e w5 ⟨rfl, hb5⟩; have h5 := H.out.drew.below hb5))
  go_wp2
  go_ret
  exact ⟨rfl, (below_drewN (Below.refl _ _) 1).trans hb5⟩
def nxR (k : Int) (m : Int) (A O : Nat) : Int × Int × Nat := if (O : Int) - A = k then (0, 6, O) else ((O : Int) % m, 0, O + 1)
def P39 (w : World) (b : Nat) (m k : Int) (A : Nat) (r : Int × Int × Nat) (e : Ending) (w' : World) : Prop := e = .returned (.tuple #[.int .i64 r.1, .int .i64 r.2.1]) ∧ OutW w' b m k A r.2.2 ∧ Only [b] w w'
set_option maxHeartbeats 4000000 in
theorem next39 (b : Nat) (m k : Int) (A O : Nat) (w : World) (h : OutW w b m k A O) (hm : m = 8 ∨ m = 128) (hA : A ≤ O) (hO : (O : Int) - A ≤ k) (hk : k < m) :
    Calls Try.prog 39 #[.pointer (some ⟨b, 0, none⟩)] w (P39 w b m k A (nxR k m A O)) := by
  have H := Lib.hid h
  have HO := Lib.hid (fun w h => open51 b m k A O w h hm hA (by omega))
  have c0 := h.c0
  have c1 := h.c1
  have c3 := h.c3
  have hs0 : 0 ≤ (O : Int) % m ∧ (O : Int) % m < m := ⟨Int.emod_nonneg _ (by omega), Int.emod_lt_of_pos _ (by omega)⟩
  have hst : stepI m ((O : Int) % m) 1 = ((O + 1 : Nat) : Int) % m := by rw [stepI_one hm hs0.1 hs0.2]; rcases hm with rfl | rfl <;> omega
  have HS := Lib.hid (step_to hst)
  clear h hm hst hs0
  unfold nxR
  by_cases hf : (O : Int) - A = k
  · rw [if_pos hf]
    have HF := Lib.hid hf
    clear hf
    go_enter Try.func39, Try.ntmps39
    go_wp2_with fail
    go_region_held3 (fun w' => w'.cell? ⟨b, 1, none⟩ = some (.int .i64 k))
      (first | exact c1 | exact h5.c1 | go_keep)
      ((go_at_call 51; refine (HO.out _ H.out.drew).mono ?_; rintro e w5 ⟨rfl, hb5⟩; have h5 := H.out.drew.below hb5; rw [HF.out]))
    go_wp2
    go_ret2
    exact ⟨rfl, h5, ((Only.refl [b] w).drew.below hb5 (by simp))⟩
  · rw [if_neg hf]
    have hlt : (O : Int) - A < k := by omega
    have H1 := Lib.hid (And.intro hlt hf)
    clear hf
    generalize hd : (O : Int) - A = d at *
    clear hd
    go_enter Try.func39, Try.ntmps39
    go_wp2_with fail
    go_region_held3 (fun w' => w'.cell? ⟨b, 1, none⟩ = some (.int .i64 k))
      (first | exact c1 | exact h5.c1 | go_keep)
      ((go_at_call 51; refine (HO.out _ H.out.drew).mono ?_; rintro e w5 ⟨rfl, hb5⟩; have h5 := H.out.drew.below hb5))
    have p3 := h5.c3
    have p0 := h5.c0
    generalize (O : Int) % m = vs at *
    go_wp2_with fail
    go_region_with (go_at_call 27; refine (HS.out _).mono ?_; rintro e w6 ⟨rfl, hb6⟩; have h6 := h5.drew.below hb6; have f3 := h6.f 3; have q3 := h6.c3)
    all_goals
      go_wp2
      go_ret2
      exact ⟨rfl, h6.set3, ((((Only.refl [b] w).drew.below hb5 (by simp)).drew.below hb6 (by have := hb5.size; simpa using this)).setCell (by simp) _)⟩
def akR (m : Int) (A O : Nat) (nr : Int) : Int × Int × Nat :=
  if ok1B m nr = false then (0, 1, A) else if (O : Int) - A < farI m ((A : Int) % m) nr then (0, 1, A) else (farI m ((A : Int) % m) nr, 0, A + (farI m ((A : Int) % m) nr).toNat)
def P41 (w : World) (b : Nat) (m k : Int) (O : Nat) (r : Int × Int × Nat) (e : Ending) (w' : World) : Prop := e = .returned (.tuple #[.int .i64 r.1, .int .i64 r.2.1]) ∧ OutW w' b m k r.2.2 O ∧ Only [b] w w'
theorem far_back {m nr : Int} {A : Nat} (hm : m = 8 ∨ m = 128) (h0 : 0 ≤ nr) (h1 : nr < m) : 0 ≤ farI m ((A : Int) % m) nr ∧ farI m ((A : Int) % m) nr < m ∧ (A + farI m ((A : Int) % m) nr) % m = nr := by
  have hok : ok2B m ((A : Int) % m) nr = true := by simp [ok2B, inB, modB]; rcases hm with rfl | rfl <;> omega
  have hb := farI_bd hok
  refine ⟨hb.1, hb.2, ?_⟩
  rw [farI, if_pos hok]
  rcases hm with rfl | rfl <;> omega
set_option maxHeartbeats 4000000 in
theorem acks41 (b : Nat) (m k nr : Int) (A O : Nat) (w : World) (h : OutW w b m k A O) (hm : m = 8 ∨ m = 128) (hA : A ≤ O) (hO : (O : Int) - A < m) :
    Calls Try.prog 41 #[.pointer (some ⟨b, 0, none⟩), .int .i64 nr] w (P41 w b m k O (akR m A O nr)) := by
  have H := Lib.hid h
  have c0 := h.c0
  have K26 := Lib.hid (right1 m nr w.heap.size _ (nc0 w (.int .i64 nr) 3))
  have h1 := h.only ((Only.refl [] w).alloc (.cells #[.int .i64 nr] 3)) (by simp)
  unfold akR
  cases hok : ok1B m nr
  · rw [hok] at K26
    simp only [if_true]
    clear h hm hok
    go_enter Try.func41, Try.ntmps41
    go_wp2_with (go_at_call 26; refine K26.out.mono ?_; rintro e w1 ⟨rfl, rfl⟩)
    go_ret2
    exact ⟨rfl, h1, (Only.refl _ w).alloc _⟩
  · rw [hok] at K26
    simp only [Bool.true_eq_false, if_false]
    have hb : 0 ≤ nr ∧ nr < m := by simp [ok1B, inB, modB] at hok; omega
    have hfb := far_back (A := A) hm hb.1 hb.2
    have HO := Lib.hid (fun w h => open51 b m k A O w h hm hA hO)
    have HF := Lib.hid (far_is (rfl : farI m ((A : Int) % m) nr = farI m ((A : Int) % m) nr))
    have d0 := h1.c0
    have d2 := h1.c2
    have hd := h1.drew
    generalize farI m ((A : Int) % m) nr = n at *
    obtain ⟨hn0, hn1, hn2⟩ := hfb
    have HN := Lib.hid hn2
    clear h hm hok hn2
    by_cases hgt : (O : Int) - A < n
    · rw [if_pos hgt]
      have hgt' := hgt
      unfold OutW at H
      clear hgt
      go_enter Try.func41, Try.ntmps41
      go_wp2_with (go_at_call 26; refine K26.out.mono ?_; rintro e w1 ⟨rfl, rfl⟩)
      go_region_held3 (fun w' => w'.cell? ⟨b, 0, none⟩ = some (.int .i64 m) ∧ w'.cell? ⟨b, 2, none⟩ = some (.int .i64 ((A : Int) % m)))
        (first | exact ⟨d0, d2⟩ | exact ⟨h5.c0, h5.c2⟩ | go_keep)
        ((go_at_call 25; refine (HF.out _).mono ?_; rintro e w5 ⟨rfl, hb5⟩; have h5 := hd.below hb5))
      go_wp2_with (go_at_call 51; refine (HO.out _ h5).mono ?_; rintro e w6 ⟨rfl, hb6⟩)
      go_ret2
      have h6 := h5.below hb6
      have o5 : Only [b] w w5 := ((Only.refl [b] w).alloc _).drew.below hb5 (by simp)
      exact ⟨rfl, h6, o5.below hb6 o5.size⟩
    · rw [if_neg hgt]
      have hle : n ≤ (O : Int) - A := by omega
      have hva : ((A + n.toNat : Nat) : Int) % m = nr := by have := HN.out; rw [← this]; congr 1; omega
      have HV := Lib.hid hva
      unfold OutW at H
      clear hgt hva
      go_enter Try.func41, Try.ntmps41
      go_wp2_with (go_at_call 26; refine K26.out.mono ?_; rintro e w1 ⟨rfl, rfl⟩)
      go_region_held3 (fun w' => w'.cell? ⟨b, 0, none⟩ = some (.int .i64 m) ∧ w'.cell? ⟨b, 2, none⟩ = some (.int .i64 ((A : Int) % m)))
        (first | exact ⟨d0, d2⟩ | exact ⟨h5.c0, h5.c2⟩ | go_keep)
        ((go_at_call 25; refine (HF.out _).mono ?_; rintro e w5 ⟨rfl, hb5⟩; have h5 := hd.below hb5))
      go_wp2_with (go_at_call 51; refine (HO.out _ h5).mono ?_; rintro e w6 ⟨rfl, hb6⟩; have h6 := h5.below hb6; have f2 := h6.f 2; have q2 := h6.c2)
      go_ret2
      have o5 : Only [b] w w5 := ((Only.refl [b] w).alloc _).drew.below hb5 (by simp)
      refine ⟨rfl, ?_, (o5.below hb6 o5.size).setCell (by simp) _⟩
      unfold OutW
      simp only
      rw [HV.out]
      exact h6.set2
theorem back43 (b : Nat) (m k : Int) (A O : Nat) (w : World) (h : OutW w b m k A O) : Calls Try.prog 43 #[.pointer (some ⟨b, 0, none⟩)] w fun e w' => e = .returned (.tuple #[]) ∧ OutW w' b m k A A ∧ Only [b] w w' := by
  have H := Lib.hid h
  have c2 := h.c2
  have c3 := h.c3
  have f3 := h.f 3
  clear h
  go_enter Try.func43, Try.ntmps43
  go_wp2
  go_end0
  exact ⟨rfl, Four.set3 H.out, (Only.refl [b] w).setCell (by simp) _⟩
theorem va46 (b : Nat) (m k : Int) (A O : Nat) (w : World) (h : OutW w b m k A O) : Calls Try.prog 46 #[.pointer (some ⟨b, 0, none⟩)] w fun e w' => e = .returned (.int .i64 ((A : Int) % m)) ∧ w = w' := by
  have c2 := h.c2
  clear h
  go_enter Try.func46, Try.ntmps46
  go_wp2
  go_ret
  exact ⟨rfl, rfl⟩
theorem vs47 (b : Nat) (m k : Int) (A O : Nat) (w : World) (h : OutW w b m k A O) : Calls Try.prog 47 #[.pointer (some ⟨b, 0, none⟩)] w fun e w' => e = .returned (.int .i64 ((O : Int) % m)) ∧ w = w' := by
  have c3 := h.c3
  clear h
  go_enter Try.func47, Try.ntmps47
  go_wp2
  go_ret
  exact ⟨rfl, rfl⟩
/-- The numbers that are open. -/
def opn (m : Int) (A : Nat) : Nat → List Int
  | 0 => []
  | n + 1 => opn m A n ++ [((A + n : Nat) : Int) % m]
theorem opn_len (m : Int) (A n : Nat) : (opn m A n).length = n := by
  induction n with
  | zero => rfl
  | succ n ih => simp [opn, ih]
def P40 (w : World) (xs : List Int) (e : Ending) (w' : World) : Prop := ∃ v, e = .returned v ∧ RowI w' w.heap.size v xs ∧ Below w.heap.size w w'
set_option maxHeartbeats 4000000 in
theorem open40 (b : Nat) (m k : Int) (A O : Nat) (w : World) (h : OutW w b m k A O) (hm : m = 8 ∨ m = 128) (hA : A ≤ O) (hO : (O : Int) - A < m) :
    Calls Try.prog 40 #[.pointer (some ⟨b, 0, none⟩)] w (P40 w (opn m A (O - A))) := by
  have H := Lib.hid h
  have HM := Lib.hid hm
  have c2 := h.c2
  clear h
  have hm8 : 8 ≤ m := by omega
  have hm9 : m ≤ 128 := by omega
  clear hm
  go_enter Try.func40, Try.ntmps40
  go_wp2
  clear c2
  go_loopg [3, 4] (O - A) (fun n v x wr => ∃ i : Nat, i + n = O - A ∧ x = .int .i64 (((A + i : Nat) : Int) % m) ∧ RowI wr w.heap.size v (opn m A i) ∧ Below w.heap.size w wr)
  case atStart => exact ⟨0, by omega, by simp, RowI.nil _ _, Below.refl _ _⟩
  case round =>
    obtain ⟨i, hi, rfl, hrow, hb⟩ := hrel
    have hin : OutW wr b m k A O := Four.below H.out hb
    have hbl := Four.lt H.out
    have hbase := hb.size
    have d0 := hin.c0
    have d3 := hin.c3
    have hlen := opn_len m A i
    have hn0 : 0 ≤ ((A + i : Nat) : Int) % m := Int.emod_nonneg _ (by omega)
    have hn1 : ((A + i : Nat) : Int) % m < m := Int.emod_lt_of_pos _ (by omega)
    have hstep : stepI m (((A + i : Nat) : Int) % m) 1 = ((A + (i + 1) : Nat) : Int) % m := by
      rw [stepI_one HM.out hn0 hn1]
      rcases HM.out with rfl | rfl <;> omega
    have HST := Lib.hid (step_to hstep)
    have HL := Lib.hid hlen
    have hne : i < O - A → ((A + i : Nat) : Int) % m ≠ (O : Int) % m := by
      intro hlt
      rcases HM.out with rfl | rfl <;> omega
    clear hstep hlen
    by_cases hlt : i < O - A
    · have hne2 : (((A + i : Nat) : Int) % m != (O : Int) % m) = true := by simpa using hne hlt
      have HI := Lib.hid (And.intro hlt hi)
      clear hne hlt hi
      have hrow2 : opn m A (i + 1) = opn m A i ++ [((A + i : Nat) : Int) % m] := rfl
      have HR := Lib.hid hrow2
      clear hrow2
      generalize ((A + i : Nat) : Int) % m = x at *
      generalize (O : Int) % m = vs at *
      have HIN := Lib.hid hin
      go_wp2_with (first
        | (at_builtin; refine wpList_append_row rfl _ _ rfl w.heap.size u3 (opn m A i) x rfl hrow rfl (by have := HL.out; have := HI.out; omega) hbase ?_; intro v' w1 hr1 hg1; have hin1 := (Four.only HIN.out ((Only.refl [] wr).alloc (.cells #[.int .i64 x] 3)) (by simp)).grown hg1 w.heap.size hrow.own hbl; have d0 := hin1.c0)
        | (go_at_call 27; refine (HST.out _).mono ?_; rintro e w2 ⟨rfl, hb2⟩))
      go_roundg (gk - 1)
      case measure => have := HI.out; omega
      case rel =>
        have hbe1 : Below w.heap.size w w1 := (hb.alloc hbase _).grown hg1 (by simp; omega) hrow.own
        exact ⟨i + 1, by have := HI.out; omega, rfl, by rw [HR.out]; exact hr1.only ((Only.refl [] w1).below hb2 (Nat.le_refl _)) (by simp), hbe1.trans (hb2.mono hbe1.size)⟩
    · have hie : i = O - A := by omega
      rw [hie] at hrow ⊢
      have hve : ((A + (O - A) : Nat) : Int) % m = (O : Int) % m := by rw [show A + (O - A) = O by omega]
      rw [hve]
      clear hne hlt hi hie hve HST hn0 hn1 HL
      generalize (O : Int) % m = vs at *
      generalize opn m A (O - A) = L at *
      go_wp2
      go_ret
      exact ⟨u3, rfl, hrow, hb⟩
end Go.Proofs.Ytfloemimimkgaaa
