/- What each function of package smooth, and of its reference, returns and leaves in memory (contracts): for a smoother that lies whole in one block. No conditions but those that each theorem names. -/
import Derived.Test.YtfloemimimkgaaaMem
namespace Go.Proofs.Ytfloemimimkgaaa
open Go.RowKit

def wi (n : Int) : Int := if n < 4 then 4 else if 255 < n then 255 else n
theorem wi_bd (n : Int) : 4 ≤ wi n ∧ wi n ≤ 255 := by unfold wi; omega
theorem within48 (n : Int) (w : World) : Calls Try.prog 48 #[.int .i64 n] w fun e w' => e = .returned (.int .i64 (wi n)) ∧ w = w' := by
  by_cases h1 : n < 4
  · go_enter Try.func48, Try.ntmps48
    go_wp2
    go_ret
    exact ⟨ret_int (by unfold wi; omega), rfl⟩
  · by_cases h2 : n ≤ 255
    · go_enter Try.func48, Try.ntmps48
      go_wp2
      go_ret
      exact ⟨ret_int (by unfold wi; omega), rfl⟩
    · go_enter Try.func48, Try.ntmps48
      go_wp2
      go_ret
      exact ⟨ret_int (by unfold wi; omega), rfl⟩
theorem within49 (n : Int) (w : World) : Calls Try.prog 49 #[.int .i64 n] w fun e w' => e = .returned (.int .i64 (wi n)) ∧ w = w' := by
  go_enter Try.func49, Try.ntmps49
  go_wp2
  all_goals go_ret
  all_goals exact ⟨ret_int (by unfold wi; omega), rfl⟩

def Smo (w : World) (b : Nat) (s t : Int) : Prop := w.heap[b]? = some (.cells #[.int .i64 s, .int .i64 t] 76 (0, 0))
theorem Smo.c0 {w : World} {b : Nat} {s t : Int} (h : Smo w b s t) : w.cell? ⟨b, 0, none⟩ = some (.int .i64 s) := by unfold Smo at h; simp [World.cell?, h]
theorem Smo.c1 {w : World} {b : Nat} {s t : Int} (h : Smo w b s t) : w.cell? ⟨b, 1, none⟩ = some (.int .i64 t) := by unfold Smo at h; simp [World.cell?, h]
theorem Smo.f0 {w : World} {b : Nat} {s t : Int} (h : Smo w b s t) (o : Nat) : w.frozen? ⟨b, o, none⟩ = false := by unfold Smo at h; simp [World.frozen?, h]
theorem Smo.drew {w : World} {b : Nat} {s t : Int} (h : Smo w b s t) : Smo w.drew b s t := h
theorem Smo.lt {w : World} {b : Nat} {s t : Int} (h : Smo w b s t) : b < w.heap.size := heap_lt h
theorem Smo.made (w : World) (s t : Int) : Smo (w.alloc (.cells #[.int .i64 s, .int .i64 t] 76)) w.heap.size s t := heap_new w _
theorem Smo.old {w : World} {b : Nat} {s t : Int} (h : Smo w b s t) (o : Obj) : Smo (w.alloc o) b s t := heap_old h o
theorem Smo.kept {w w' : World} {b b' : Nat} {s t : Int} (h : Smo w b s t) (hg : w.grownBy w' (some b')) (hb : b ≠ b') : Smo w' b s t := (hg.block b h.lt (by simpa using hb)).trans h
theorem Smo.set {w : World} {b : Nat} {s t s' t' : Int} (h : Smo w b s t) : Smo ((w.setCell ⟨b, 0, none⟩ (.int .i64 s')).setCell ⟨b, 1, none⟩ (.int .i64 t')) b s' t' := by
  have := heap_set (heap_set h 0 (.int .i64 s')) 1 (.int .i64 t')
  simpa [Smo] using this
theorem Smo.set1 {w : World} {b : Nat} {s t t' : Int} (h : Smo w b s t) : Smo (w.setCell ⟨b, 1, none⟩ (.int .i64 t')) b s t' := by
  have := heap_set h 1 (.int .i64 t')
  simpa [Smo] using this

theorem new13 (n : Int) (w : World) : Calls Try.prog 13 #[.int .i64 n] w fun e w' => e = .returned (.pointer (some ⟨w.heap.size, 0, none⟩)) ∧ w.alloc (.cells #[.int .i64 (4 * wi n), .int .i64 (wi n)] 76) = w' := by
  have hb := wi_bd n
  go_enter Try.func13, Try.ntmps13
  go_wp2_with (go_at_call 48; refine (within48 _ _).mono ?_; rintro e w' ⟨rfl, rfl⟩)
  go_ret
  have h : wi n * 8 / 2 = 4 * wi n := by omega
  rw [h]
  exact ⟨rfl, rfl⟩
theorem t15 (b : Nat) (s t : Int) (w : World) (h : Smo w b s t) : Calls Try.prog 15 #[.pointer (some ⟨b, 0, none⟩)] w fun e w' => e = .returned (.int .i64 t) ∧ w = w' := by
  have c1 := h.c1
  go_enter Try.func15, Try.ntmps15
  go_wp2
  go_ret
  exact ⟨rfl, rfl⟩
theorem t16 (b : Nat) (s t : Int) (w : World) (h : Smo w b s t) : Calls Try.prog 16 #[.pointer (some ⟨b, 0, none⟩)] w fun e w' => e = .returned (.int .i64 s) ∧ w = w' := by
  have c1 := h.c0
  go_enter Try.func16, Try.ntmps16
  go_wp2
  go_ret
  exact ⟨rfl, rfl⟩
theorem none17 (b : Nat) (s t : Int) (w : World) (h : Smo w b s t) (h1 : 4 ≤ t) (h2 : t ≤ 255) : Calls Try.prog 17 #[.pointer (some ⟨b, 0, none⟩)] w fun e w' => e = .returned (.int .i64 (wi (2 * t))) ∧ Smo w' b s (wi (2 * t)) ∧ w.grownBy w' (some b) := by
  have c1 := h.c1
  have f1 := h.f0 1
  have hb := wi_bd (2 * t)
  have H := Lib.hid h; clear h
  go_enter Try.func17, Try.ntmps17
  go_wp2_with (go_at_call 48; refine (within48 _ _).mono ?_; rintro e w' ⟨rfl, rfl⟩)
  go_ret
  exact ⟨rfl, H.out.set1, grown_set _ _ _ _⟩
def clp (x : Int) : Int := if x < 0 then 0 else if 255 < x then 255 else x
def sN (s x : Int) : Int := s - s / 8 + clp x
def tN (s x : Int) : Int := wi (2 * sN s x / 8 + 2)
theorem grown_two (w : World) (b : Nat) (v v' : Value) : w.grownBy ((w.setCell ⟨b, 0, none⟩ v).setCell ⟨b, 1, none⟩ v').drew (some b) := grown_drew ((grown_set _ _ _ _).trans (grown_set _ _ _ _))
theorem took19 (b : Nat) (s t x : Int) (w : World) (h : Smo w b s t) (h1 : 0 ≤ s) (h2 : s ≤ 3000) : Calls Try.prog 19 #[.pointer (some ⟨b, 0, none⟩), .int .i64 x] w fun e w' => e = .returned (.int .i64 (tN s x)) ∧ Smo w' b (sN s x) (tN s x) ∧ w.grownBy w' (some b) := by
  have c0 := h.c0
  have c1 := h.c1
  have f0 := h.f0 0
  have f1 := h.f0 1
  have H := Lib.hid h; clear h
  by_cases hx0 : x < 0
  case' neg => by_cases hx1 : 255 < x
  all_goals
    go_enter Try.func19, Try.ntmps19
    go_wp2
    go_region
    go_wp2_with (go_at_call 48; refine (within48 _ _).mono ?_; rintro e w' ⟨rfl, rfl⟩)
    go_ret
  · have hs : s + (255 - s / 8) = sN s x := by unfold sN clp; omega
    rw [hs]
    exact ⟨rfl, H.out.set.drew, grown_two _ _ _ _⟩
  · have hs : s + (x - s / 8) = sN s x := by unfold sN clp; omega
    rw [hs]
    exact ⟨rfl, H.out.set.drew, grown_two _ _ _ _⟩
  · have hs : s + -(s / 8) = sN s x := by unfold sN clp; omega
    rw [hs]
    exact ⟨rfl, H.out.set.drew, grown_two _ _ _ _⟩

/-! a nil smoother: 0, and nothing is touched -/
theorem t15_nil (w : World) : Calls Try.prog 15 #[.pointer none] w fun e w' => e = .returned (.int .i64 0) ∧ w = w' := by
  go_enter Try.func15, Try.ntmps15
  go_wp2
  go_ret
  exact ⟨rfl, rfl⟩
theorem t16_nil (w : World) : Calls Try.prog 16 #[.pointer none] w fun e w' => e = .returned (.int .i64 0) ∧ w = w' := by
  go_enter Try.func16, Try.ntmps16
  go_wp2
  go_ret
  exact ⟨rfl, rfl⟩
theorem t17_nil (w : World) : Calls Try.prog 17 #[.pointer none] w fun e w' => e = .returned (.int .i64 0) ∧ w = w' := by
  go_enter Try.func17, Try.ntmps17
  go_wp2
  go_ret
  exact ⟨rfl, rfl⟩
theorem t19_nil (x : Int) (w : World) : Calls Try.prog 19 #[.pointer none, .int .i64 x] w fun e w' => e = .returned (.int .i64 0) ∧ w = w' := by
  go_enter Try.func19, Try.ntmps19
  go_wp2
  go_ret
  exact ⟨rfl, rfl⟩

theorem took_ex (b : Nat) (w : World) (h : Smo w b 80 20) : Calls Try.prog 19 #[.pointer (some ⟨b, 0, none⟩), .int .i64 4] w fun e w' => e = .returned (.int .i64 20) ∧ Smo w' b 74 20 ∧ w.grownBy w' (some b) := by
  have k := took19 b 80 20 4 w h (by omega) (by omega)
  rwa [show tN 80 4 = 20 by decide, show sN 80 4 = 74 by decide] at k
theorem none_ex (b : Nat) (w : World) (h : Smo w b 74 20) : Calls Try.prog 17 #[.pointer (some ⟨b, 0, none⟩)] w fun e w' => e = .returned (.int .i64 40) ∧ Smo w' b 74 40 ∧ w.grownBy w' (some b) := by
  have k := none17 b 74 20 w h (by omega) (by omega)
  rwa [show wi (2 * 20) = 40 by decide] at k
theorem new_ex (w : World) : Calls Try.prog 13 #[.int .i64 20] w fun e w' => e = .returned (.pointer (some ⟨w.heap.size, 0, none⟩)) ∧ w.alloc (.cells #[.int .i64 80, .int .i64 20] 76) = w' := by
  have k := new13 20 w
  rwa [show wi 20 = 20 by decide] at k

theorem awake12 (w : World) : Calls Try.prog 12 #[] w fun e w' => e = .returned (.bool true) ∧ Below w.heap.size w w' := by
  have h0 := Smo.made w 80 20
  go_enter Try.func12, Try.ntmps12
  go_wp2_with (first
    | (go_at_call 13; refine (new_ex _).mono ?_; rintro e w' ⟨rfl, rfl⟩)
    | (go_at_call 15; refine (t15 _ 80 20 _ ?_).mono ?_; assumption; rintro e w' ⟨rfl, rfl⟩)
    | (go_at_call 16; refine (t16 _ _ _ _ (by assumption)).mono ?_; rintro e w' ⟨rfl, rfl⟩)
    | (go_at_call 19; refine (took_ex _ _ ?_).mono ?_; assumption; rintro e w1 ⟨rfl, hs1, hg1⟩)
    | (go_at_call 17; refine (none_ex _ _ ?_).mono ?_; assumption; rintro e w2 ⟨rfl, hs2, hg2⟩))
  go_ret
  exact ⟨rfl, (((Below.refl _ _).alloc (Nat.le_refl _) _).trans (below_set hg1 (Nat.le_refl _) (by simp))).trans (below_set hg2 (Nat.le_refl _) (by have := hs1.lt; omega))⟩
theorem agg_two {a b c d : Int} (h1 : a = c) (h2 : b = d) : Ending.returned (.agg #[.int .i64 a, .int .i64 b]) = .returned (.agg #[.int .i64 c, .int .i64 d]) := by rw [h1, h2]
theorem below_new (w : World) (o : Obj) : Below w.heap.size w (w.alloc o) := (Below.refl _ _).alloc (Nat.le_refl _) _
theorem below_new2 (w : World) (o o' : Obj) : Below w.heap.size w ((w.alloc o).alloc o') := (below_new w o).alloc (by simp) _
theorem new14 (n : Int) (w : World) : Calls Try.prog 14 #[.int .i64 n] w fun e w' => e = .returned (.agg #[.int .i64 (4 * wi n), .int .i64 (wi n)]) ∧ Below w.heap.size w w' := by
  have hb := wi_bd n
  go_enter Try.func14, Try.ntmps14
  go_wp2_with (go_at_call 49; refine (within49 _ _).mono ?_; rintro e w' ⟨rfl, rfl⟩)
  refine bodyPost_ret (v := .agg #[.int .i64 (4 * wi n), .int .i64 (wi n)]) (by simp [results, Try.results14, go_sem]) rfl ⟨rfl, below_new _ _⟩
theorem none18 (s t : Int) (w : World) (h1 : 4 ≤ t) (h2 : t ≤ 255) : Calls Try.prog 18 #[.agg #[.int .i64 s, .int .i64 t]] w fun e w' => e = .returned (.agg #[.int .i64 s, .int .i64 (wi (2 * t))]) ∧ Below w.heap.size w w' := by
  have ht : t + t = 2 * t := by omega
  have Ht := Lib.hid ht; clear ht
  go_enter Try.func18, Try.ntmps18
  go_wp2_with (go_at_call 49; refine (within49 _ _).mono ?_; rintro e w' ⟨rfl, rfl⟩)
  refine bodyPost_ret (v := .agg #[.int .i64 s, .int .i64 (wi (t + t))]) (by simp [results, Try.results18, go_sem]) rfl ⟨agg_two rfl (by rw [Ht.out]), below_new2 _ _ _⟩
theorem took20 (s t x : Int) (w : World) (h1 : 0 ≤ s) (h2 : s ≤ 3000) : Calls Try.prog 20 #[.agg #[.int .i64 s, .int .i64 t], .int .i64 x] w fun e w' => e = .returned (.agg #[.int .i64 (sN s x), .int .i64 (tN s x)]) ∧ Below w.heap.size w w' := by
  by_cases hx0 : x < 0
  case' neg => by_cases hx1 : 255 < x
  all_goals
    go_enter Try.func20, Try.ntmps20
    go_wp2_with (go_at_call 49; refine (within49 _ _).mono ?_; rintro e w' ⟨rfl, rfl⟩)
  · refine bodyPost_ret (v := .agg #[.int .i64 (s - s / 8 + 255), .int .i64 (wi ((s - s / 8 + 255) / 4 + 2))]) (by simp [results, Try.results20, go_sem]) rfl ⟨agg_two (by unfold sN clp; omega) (by unfold tN; congr 1; unfold sN clp; omega), below_new2 _ _ _⟩
  · refine bodyPost_ret (v := .agg #[.int .i64 (s - s / 8 + x), .int .i64 (wi ((s - s / 8 + x) / 4 + 2))]) (by simp [results, Try.results20, go_sem]) rfl ⟨agg_two (by unfold sN clp; omega) (by unfold tN; congr 1; unfold sN clp; omega), below_new2 _ _ _⟩
  · refine bodyPost_ret (v := .agg #[.int .i64 (s - s / 8), .int .i64 (wi ((s - s / 8) / 4 + 2))]) (by simp [results, Try.results20, go_sem]) rfl ⟨agg_two (by unfold sN clp; omega) (by unfold tN; congr 1; unfold sN clp; omega), below_new2 _ _ _⟩
theorem Smo.drewN {w : World} {b : Nat} {s t : Int} (h : Smo w b s t) (n : Nat) : Smo (w.drewN n) b s t := h
theorem Smo.below {w w' : World} {b B : Nat} {s t : Int} (h : Smo w b s t) (hg : Below B w w') (hb : b < B) : Smo w' b s t := (hg.block b hb).trans h
def W2 (w : World) (b : Nat) (s t : Int) : Prop := w.heap[b]? = some (.cells #[.int .i64 s, .int .i64 t] 27 (0, 0))
theorem W2.d0 {w : World} {b : Nat} {s t : Int} (h : W2 w b s t) : w.cell? ⟨b, 0, none⟩ = some (.int .i64 s) := by unfold W2 at h; simp [World.cell?, h]
theorem W2.d1 {w : World} {b : Nat} {s t : Int} (h : W2 w b s t) : w.cell? ⟨b, 1, none⟩ = some (.int .i64 t) := by unfold W2 at h; simp [World.cell?, h]
theorem W2.g {w : World} {b : Nat} {s t : Int} (h : W2 w b s t) (o : Nat) : w.frozen? ⟨b, o, none⟩ = false := by unfold W2 at h; simp [World.frozen?, h]
theorem W2.lt {w : World} {b : Nat} {s t : Int} (h : W2 w b s t) : b < w.heap.size := heap_lt h
theorem W2.kept {w w' : World} {b b' : Nat} {s t : Int} (h : W2 w b s t) (hg : w.grownBy w' (some b')) (hb : b ≠ b') : W2 w' b s t := (hg.block b h.lt (by simpa using hb)).trans h
theorem W2.below {w w' : World} {b B : Nat} {s t : Int} (h : W2 w b s t) (hg : Below B w w') (hb : b < B) : W2 w' b s t := (hg.block b hb).trans h
theorem W2.set {w : World} {b : Nat} {s t s' t' : Int} (h : W2 w b s t) : W2 ((w.setCell ⟨b, 0, none⟩ (.int .i64 s')).setCell ⟨b, 1, none⟩ (.int .i64 t')) b s' t' := by
  have := heap_set (heap_set h 0 (.int .i64 s')) 1 (.int .i64 t')
  simpa [W2] using this
theorem Smo.set_other {w : World} {b : Nat} {s t : Int} (h : Smo w b s t) (b' o : Nat) (v : Value) (hb : b ≠ b') : Smo (w.setCell ⟨b', o, none⟩ v) b s t := h.kept (grown_set w b' o v) hb
theorem sN_bd (s z : Int) (h0 : 0 ≤ s) (h1 : s ≤ 2047) : 0 ≤ sN s z ∧ sN s z ≤ 2047 := by
  have : 0 ≤ clp z ∧ clp z ≤ 255 := by unfold clp; omega
  unfold sN; omega
theorem below_round {w wr w3 w4 : World} {B1 B2 : Nat} (hb : Below w.heap.size w wr) (hg : wr.grownBy w3 (some B1)) (h4 : Below w3.heap.size w3 w4) (h1 : w.heap.size ≤ B1) (h2 : w.heap.size ≤ B2) (v v' : Value) :
    Below w.heap.size w ((w4.setCell ⟨B2, 0, none⟩ v).setCell ⟨B2, 1, none⟩ v') :=
  (((hb.grown hg hb.size (fun k hk => by cases hk; exact h1)).trans (h4.mono (by have := hb.size; have := hg.size; omega))).setCell h2 v).setCell h2 v'
theorem t15q {b : Nat} {s t : Int} {w : World} (h : Smo w b s t) (n : Nat) : Calls Try.prog 15 #[.pointer (some ⟨b, 0, none⟩)] (w.drewN n) fun e w' => e = .returned (.int .i64 t) ∧ ∃ m, w' = w.drewN m :=
  Calls.quiet_of_same ((t15 b s t _ (h.drewN n)).mono fun _ _ h => ⟨h.1, h.2.symm⟩)
theorem t16q {b : Nat} {s t : Int} {w : World} (h : Smo w b s t) (n : Nat) : Calls Try.prog 16 #[.pointer (some ⟨b, 0, none⟩)] (w.drewN n) fun e w' => e = .returned (.int .i64 s) ∧ ∃ m, w' = w.drewN m :=
  Calls.quiet_of_same ((t16 b s t _ (h.drewN n)).mono fun _ _ h => ⟨h.1, h.2.symm⟩)
end Go.Proofs.Ytfloemimimkgaaa
