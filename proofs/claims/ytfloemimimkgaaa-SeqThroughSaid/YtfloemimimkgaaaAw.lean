/- What Same of the reference returns (contract), and the awake example of the statements on package seq: it returns true. -/
import Derived.Test.YtfloemimimkgaaaTk
namespace Go.Proofs.Ytfloemimimkgaaa
open Go.RowKit Go.Maps
set_option linter.unusedVariables false
/-- A slice of ints that reads as a list. -/
def Reads (w : World) (v : Value) (xs : List Int) : Prop :=
  (v = .slice none 0 0 ∧ xs = []) ∨ ∃ g off cap, v = .slice (some ⟨g, off, none⟩) xs.length cap ∧ ∀ i, i < xs.length → w.cell? ⟨g, off + i, none⟩ = some (.int .i64 (xs.getD i 0))
theorem RowI.reads {w : World} {base : Nat} {v : Value} {xs : List Int} (h : RowI w base v xs) : Reads w v xs := by
  rcases h.shape with h | ⟨g, cap, cur, hv, _, hh, _, _, hc⟩
  · exact Or.inl h
  · exact Or.inr ⟨g, 0, cap, hv, fun i hi => by rw [cell_of hh, Nat.zero_add]; exact hc i hi⟩
def eqB (xs ys : List Int) : Bool := decide (xs = ys)
def Post34 (w : World) (xs ys : List Int) (e : Ending) (w' : World) : Prop := e = .returned (.bool (eqB xs ys)) ∧ ∃ n, w' = w.drewN n
theorem getD_ne {xs ys : List Int} {k : Nat} (h : xs.getD k 0 ≠ ys.getD k 0) : eqB xs ys = false := by
  have : xs ≠ ys := fun e => h (by rw [e])
  simpa [eqB] using this
theorem eq_of_getD {xs ys : List Int} (hl : xs.length = ys.length) (h : ∀ i, i < xs.length → xs.getD i 0 = ys.getD i 0) : eqB xs ys = true := by
  have : xs = ys := by
    apply List.ext_getElem hl
    intro i h1 h2
    have := h i h1
    simpa [List.getD_eq_getElem?_getD, h1, h2] using this
  simpa [eqB] using this
theorem eqB_len {xs ys : List Int} (h : xs.length ≠ ys.length) : eqB xs ys = false := by
  have : xs ≠ ys := fun e => h (by rw [e])
  simpa [eqB] using this
set_option maxHeartbeats 1000000 in
theorem same34_some (w : World) (g o1 c1 g2 o2 c2 : Nat) (xs ys : List Int) (hx : xs.length ≤ 1000000) (hy : ys.length ≤ 1000000)
    (r1 : ∀ i, i < xs.length → w.cell? ⟨g, o1 + i, none⟩ = some (.int .i64 (xs.getD i 0))) (r2 : ∀ i, i < ys.length → w.cell? ⟨g2, o2 + i, none⟩ = some (.int .i64 (ys.getD i 0))) :
    Calls Try.prog 34 #[.slice (some ⟨g, o1, none⟩) xs.length c1, .slice (some ⟨g2, o2, none⟩) ys.length c2] w (Post34 w xs ys) := by
  by_cases hl : xs.length = ys.length
  · have R1 := Lib.hid r1
    have R2 := Lib.hid r2
    have HL := Lib.hid hl
    clear r1 r2
    rw [← hl]
    clear hl hy
    go_enter Try.func34, Try.ntmps34
    go_wp2
    go_loopw [5] (fun i wr => ∃ k n : Nat, k ≤ xs.length ∧ i = .int .i64 k ∧ wr = w.drewN n ∧ Hid (∀ j, j < k → xs.getD j 0 = ys.getD j 0)) (fun i _ => xs.length - (intOf i).toNat)
    case atStart => exact ⟨0, 0, by omega, rfl, rfl, fun j hj => by omega⟩
    case round =>
      obtain ⟨k, n, hk, rfl, rfl, hj⟩ := hrel
      by_cases hlt : k < xs.length
      · have d1 := R1.out k hlt
        have d2 := R2.out k (by have := HL.out; omega)
        have hnext : xs.getD k 0 = ys.getD k 0 → ∀ j, j < k + 1 → xs.getD j 0 = ys.getD j 0 := fun he j hj' => by
          by_cases e : j = k
          · rw [e]; exact he
          · exact hj.out j (by omega)
        have hbad : xs.getD k 0 ≠ ys.getD k 0 → eqB xs ys = false := getD_ne
        have HN := Lib.hid hnext
        have HBAD := Lib.hid hbad
        clear hnext hbad
        generalize xs.getD k 0 = p at *
        generalize ys.getD k 0 = q at *
        by_cases he : p = q
        · subst he
          go_wp2
          go_quiet (fail)
          go_wp2
          go_roundw
          case rel => exact ⟨k + 1, n + nq, by omega, by go_num, rfl, HN.out (by simp)⟩
          case measure => simp [intOf]; omega
        · have hb := HBAD.out he
          have HB := Lib.hid hb
          have hpq : (p != q) = true := by simpa using he
          clear hb he
          go_wp2
          go_quiet (fail)
          go_wp2
          go_ret
          exact ⟨ret_bool HB.out.symm, by first | exact ⟨n, rfl⟩ | exact ⟨n + nq, by simp⟩⟩
      · obtain rfl : k = xs.length := by omega
        have hb := eq_of_getD HL.out hj.out
        have HB := Lib.hid hb
        clear hb
        go_wp2
        go_ret
        exact ⟨ret_bool HB.out.symm, by first | exact ⟨n, rfl⟩ | exact ⟨n + nq, by simp⟩⟩
  · have hb := eqB_len hl
    have HB := Lib.hid hb
    clear hb r1 r2
    have hne : ((xs.length : Int) != (ys.length : Int)) = true := by simp; omega
    go_enter Try.func34, Try.ntmps34
    go_wp2
    all_goals go_ret
    all_goals exact ⟨ret_bool HB.out.symm, 0, rfl⟩
theorem same34_zero (w : World) (a1 a2 : Option Addr) (c1 c2 : Nat) : Calls Try.prog 34 #[.slice a1 0 c1, .slice a2 0 c2] w (Post34 w [] []) := by
  go_enter Try.func34, Try.ntmps34
  go_wp2
  refine wp_loop_rounds 1 ?_; rw [rounds_succ]; go_wp2
  go_ret
  exact ⟨rfl, 0, rfl⟩
theorem same34_parts (w : World) (a1 a2 : Option Addr) (n1 n2 c1 c2 : Nat) (h : n1 ≠ n2) : Calls Try.prog 34 #[.slice a1 n1 c1, .slice a2 n2 c2] w fun e w' => e = .returned (.bool false) ∧ w = w' := by
  have hne : ((n1 : Int) != (n2 : Int)) = true := by simp; omega
  go_enter Try.func34, Try.ntmps34
  go_wp2
  all_goals go_ret
  all_goals exact ⟨rfl, rfl⟩
theorem same34 (w : World) (va vb : Value) (xs ys : List Int) (ha : Reads w va xs) (hb : Reads w vb ys) (hx : xs.length ≤ 1000000) (hy : ys.length ≤ 1000000) : Calls Try.prog 34 #[va, vb] w (Post34 w xs ys) := by
  rcases ha with ⟨rfl, rfl⟩ | ⟨g, o1, c1, rfl, r1⟩
  · rcases hb with ⟨rfl, rfl⟩ | ⟨g2, o2, c2, rfl, r2⟩
    · exact same34_zero w _ _ _ _
    · by_cases h : ys = []
      · subst h; exact same34_zero w _ _ _ _
      · refine (same34_parts w _ _ _ _ _ _ (by intro e; exact h (List.eq_nil_of_length_eq_zero e.symm))).mono fun e w' ⟨he, hw⟩ => ⟨?_, 0, hw.symm⟩
        rw [he, eqB_len]; intro e; exact h (List.eq_nil_of_length_eq_zero e.symm)
  · rcases hb with ⟨rfl, rfl⟩ | ⟨g2, o2, c2, rfl, r2⟩
    · by_cases h : xs = []
      · subst h; exact same34_zero w _ _ _ _
      · refine (same34_parts w _ _ _ _ _ _ (by intro e; exact h (List.eq_nil_of_length_eq_zero e))).mono fun e w' ⟨he, hw⟩ => ⟨?_, 0, hw.symm⟩
        rw [he, eqB_len]; intro e; exact h (List.eq_nil_of_length_eq_zero e)
    · exact same34_some w g o1 c1 g2 o2 c2 xs ys hx hy r1 r2

/-! the example -/
theorem newIn_ex (w : World) : Calls Try.prog 28 #[.int .i64 8, .int .i64 4] w fun e w' => e = .returned (.tuple #[.pointer (some ⟨w.heap.size + 1, 0, none⟩), .int .i64 0]) ∧ InW w' (w.heap.size + 1) w.heap.size 8 4 0 [] ∧ Below w.heap.size w w' :=
  newIn28 8 4 w (by decide) (by omega) (by omega)
theorem take_ex1 (b bm : Nat) (w : World) (h : InW w b bm 8 4 0 []) : Calls Try.prog 29 #[.pointer (some ⟨b, 0, none⟩), .int .i64 1] w (TakePost w b bm 8 4 ([], 0, [1])) :=
  take_in b bm 8 4 0 1 [] w h (by decide) (by simp) (by decide) (by omega) (by omega) (by simp)
theorem take_ex2 (b bm : Nat) (w : World) (h : InW w b bm 8 4 0 [1]) : Calls Try.prog 29 #[.pointer (some ⟨b, 0, none⟩), .int .i64 0] w (TakePost w b bm 8 4 ([0, 1], 2, [])) :=
  take_in b bm 8 4 0 0 [1] w h (by decide) (by simp) (by decide) (by omega) (by omega) (by simp)

set_option maxHeartbeats 2000000 in
theorem awake23 (w : World) : Calls Try.prog 23 #[] w fun e w' => e = .returned (.bool true) ∧ Below w.heap.size w w' := by
  go_enter Try.func23, Try.ntmps23
  go_wp2_with fail
  refine (newIn_ex _).mono ?_
  rintro e w1 ⟨rfl, h1, hb1⟩
  generalize hB : w.heap.size = B at *
  go_wp2_with fail
  refine (take_ex1 _ _ _ h1).mono ?_
  rintro e w2 ⟨v2, rfl, hr2, h2, ho2⟩
  obtain ⟨ad, cap, hv2⟩ : ∃ a c, v2 = .slice a 0 c := by
    rcases hr2.shape with ⟨h, _⟩ | ⟨g, cap, cur, h, _⟩
    · exact ⟨_, _, h⟩
    · exact ⟨_, _, h⟩
  rw [hv2]
  clear hv2 hr2
  go_wp2_with fail
  refine (take_ex2 _ _ _ h2).mono ?_
  rintro e w3 ⟨v3, rfl, hr3, h3, ho3⟩
  go_wp2_with fail
  have hr4 := hr3.reads
  have hrb : Reads (w3.alloc (.cells #[.int .i64 0, .int .i64 1] 3)) (.slice (some ⟨w3.heap.size, 0, none⟩) 2 2) [0, 1] := Or.inr ⟨w3.heap.size, 0, 2, rfl, fun i hi => by
    rw [cell_of (heap_new _ _)]
    have : i = 0 ∨ i = 1 := by simp at hi; omega
    rcases this with rfl | rfl <;> rfl⟩
  have hra : Reads (w3.alloc (.cells #[.int .i64 0, .int .i64 1] 3)) v3 [0, 1] := (hr3.only ((Only.refl [] w3).alloc _) (by simp)).reads
  refine (same34 _ _ _ _ _ hra hrb (by simp) (by simp)).mono ?_
  rintro e w4 ⟨rfl, n, rfl⟩
  have h4 := (h3.only ((Only.refl [] w3).alloc (.cells #[.int .i64 0, .int .i64 1] 3)) (by simp) (by simp)).drewN n
  go_wp2_with fail
  refine (vr31 _ _ _ _ _ _ _ h4).mono ?_
  rintro e w5 ⟨rfl, rfl⟩
  go_wp2
  go_ret
  refine ⟨rfl, ?_⟩
  have hs : B ≤ w1.heap.size := by have := hb1.size; omega
  rw [hB]
  exact below_drewN ((((ho2.to_below hb1 hs (by simp)).trans ((ho3.to_below (Below.refl B w2) (by have := ho2.size; omega) (by simp)))).alloc (by have := ho2.size; have := ho3.size; omega) _)) n
end Go.Proofs.Ytfloemimimkgaaa
