/- The reference's window of package seq (a struct that holds an array): Held: what it returns (contract). No conditions but those that each theorem names. -/
import Derived.Test.YtfloemimimkgaaaFar
namespace Go.Proofs.Ytfloemimimkgaaa
open Go.RowKit Go.Maps
set_option linter.unusedVariables false

/-- The reference's window, whole in block b: f tells which of the 128 came. -/
def RefIn (w : World) (b : Nat) (m k vr : Int) (f : Nat → Bool) : Prop :=
  ∃ c : Array Value, w.heap[b]? = some (.cells c 53 (0, 0)) ∧ c.size = 131 ∧ c[0]? = some (.int .i64 m) ∧ c[1]? = some (.int .i64 k) ∧ c[2]? = some (.int .i64 vr) ∧ ∀ i, i < 128 → c[3 + i]? = some (.bool (f i))
theorem RefIn.lt {w : World} {b : Nat} {m k vr : Int} {f : Nat → Bool} (h : RefIn w b m k vr f) : b < w.heap.size := by obtain ⟨c, h, _⟩ := h; exact heap_lt h
theorem RefIn.c0 {w : World} {b : Nat} {m k vr : Int} {f : Nat → Bool} (h : RefIn w b m k vr f) : w.cell? ⟨b, 0, none⟩ = some (.int .i64 m) := by obtain ⟨c, h, _, h0, _⟩ := h; rw [cell_of h, h0]
theorem RefIn.c1 {w : World} {b : Nat} {m k vr : Int} {f : Nat → Bool} (h : RefIn w b m k vr f) : w.cell? ⟨b, 1, none⟩ = some (.int .i64 k) := by obtain ⟨c, h, _, _, h0, _⟩ := h; rw [cell_of h, h0]
theorem RefIn.c2 {w : World} {b : Nat} {m k vr : Int} {f : Nat → Bool} (h : RefIn w b m k vr f) : w.cell? ⟨b, 2, none⟩ = some (.int .i64 vr) := by obtain ⟨c, h, _, _, _, h0, _⟩ := h; rw [cell_of h, h0]
theorem RefIn.cc {w : World} {b : Nat} {m k vr : Int} {f : Nat → Bool} (h : RefIn w b m k vr f) (i : Nat) (hi : i < 128) : w.cell? ⟨b, 3 + i, none⟩ = some (.bool (f i)) := by obtain ⟨c, h, _, _, _, _, h0⟩ := h; rw [cell_of h, h0 i hi]
theorem RefIn.f {w : World} {b : Nat} {m k vr : Int} {f : Nat → Bool} (h : RefIn w b m k vr f) (o : Nat) : w.frozen? ⟨b, o, none⟩ = false := by obtain ⟨c, h, _⟩ := h; exact free_of h o
theorem RefIn.only {w w' : World} {b : Nat} {m k vr : Int} {f : Nat → Bool} {L : List Nat} (h : RefIn w b m k vr f) (ho : Only L w w') (hL : b ∉ L) : RefIn w' b m k vr f := by
  obtain ⟨c, h, r⟩ := h
  exact ⟨c, ho.heap h hL, r⟩
theorem RefIn.below {w w' : World} {b : Nat} {m k vr : Int} {f : Nat → Bool} (h : RefIn w b m k vr f) (ho : Below w.heap.size w w') : RefIn w' b m k vr f := h.only (Only.of_below ho) (by simp)
theorem RefIn.drewN {w : World} {b : Nat} {m k vr : Int} {f : Nat → Bool} (h : RefIn w b m k vr f) (n : Nat) : RefIn (w.drewN n) b m k vr f := h
theorem RefIn.drew {w : World} {b : Nat} {m k vr : Int} {f : Nat → Bool} (h : RefIn w b m k vr f) : RefIn w.drew b m k vr f := h
theorem RefIn.congr {w : World} {b : Nat} {m k vr : Int} {f g : Nat → Bool} (h : RefIn w b m k vr f) (hg : ∀ i, i < 128 → f i = g i) : RefIn w b m k vr g := by
  obtain ⟨c, h, hs, h0, h1, h2, h3⟩ := h
  exact ⟨c, h, hs, h0, h1, h2, fun i hi => by rw [h3 i hi, hg i hi]⟩
def upd (f : Nat → Bool) (i : Nat) (x : Bool) : Nat → Bool := fun j => if j = i then x else f j
theorem RefIn.set {w : World} {b : Nat} {m k vr : Int} {f : Nat → Bool} (h : RefIn w b m k vr f) (i : Nat) (hi : i < 128) (x : Bool) : RefIn (w.setCell ⟨b, 3 + i, none⟩ (.bool x)) b m k vr (upd f i x) := by
  obtain ⟨c, h, hs, h0, h1, h2, h3⟩ := h
  refine ⟨_, heap_set h _ _, by simpa using hs, ?_, ?_, ?_, fun j hj => ?_⟩
  · rw [Array.getElem?_setIfInBounds_ne (by omega)]; exact h0
  · rw [Array.getElem?_setIfInBounds_ne (by omega)]; exact h1
  · rw [Array.getElem?_setIfInBounds_ne (by omega)]; exact h2
  · by_cases e : j = i
    · subst e; rw [Array.getElem?_setIfInBounds_self_of_lt (by omega)]; simp [upd]
    · rw [Array.getElem?_setIfInBounds_ne (by omega), h3 j hj]; simp [upd, e]
theorem RefIn.setVr {w : World} {b : Nat} {m k vr x : Int} {f : Nat → Bool} (h : RefIn w b m k vr f) : RefIn (w.setCell ⟨b, 2, none⟩ (.int .i64 x)) b m k x f := by
  obtain ⟨c, h, hs, h0, h1, h2, h3⟩ := h
  refine ⟨_, heap_set h _ _, by simpa using hs, ?_, ?_, ?_, fun j hj => ?_⟩
  · rw [Array.getElem?_setIfInBounds_ne (by omega)]; exact h0
  · rw [Array.getElem?_setIfInBounds_ne (by omega)]; exact h1
  · rw [Array.getElem?_setIfInBounds_self_of_lt (by omega)]
  · rw [Array.getElem?_setIfInBounds_ne (by omega)]; exact h3 j hj

/-- How many of the first n came. -/
def cnt (f : Nat → Bool) : Nat → Nat
  | 0 => 0
  | n + 1 => cnt f n + if f n = true then 1 else 0
theorem cnt_le (f : Nat → Bool) (n : Nat) : cnt f n ≤ n := by
  induction n with
  | zero => simp [cnt]
  | succ n ih => simp only [cnt]; split <;> omega
set_option maxHeartbeats 1000000 in
theorem rheld35 (b : Nat) (m k vr : Int) (f : Nat → Bool) (w : World) (h : RefIn w b m k vr f) : Calls Try.prog 35 #[.pointer (some ⟨b, 0, none⟩)] w fun e w' => e = .returned (.int .i64 (cnt f 128)) ∧ w = w' := by
  have H := Lib.hid h
  clear h
  go_enter Try.func35, Try.ntmps35
  go_wp2
  go_loop [3, 4] (fun a i => ∃ j : Nat, j ≤ 128 ∧ i = .int .i64 j ∧ a = .int .i64 (cnt f j)) (fun _ i => 128 - (intOf i).toNat)
  case atStart => exact ⟨0, by omega, rfl, rfl⟩
  case round =>
    obtain ⟨j, hj, rfl, rfl⟩ := hrel
    have hcj := cnt_le f j
    by_cases hlt : (j : Int) < 128
    · have hc := H.out.cc j (by omega)
      cases hf : f j
      · rw [hf] at hc
        have hst : cnt f (j + 1) = cnt f j := by simp [cnt, hf]
        have HST := Lib.hid hst
        clear hst hf
        go_wp2
        go_round
        case rel => exact ⟨j + 1, by omega, by go_num, by rw [HST.out]⟩
        case measure => simp [intOf]; omega
      · rw [hf] at hc
        have hst : cnt f (j + 1) = cnt f j + 1 := by simp [cnt, hf]
        have HST := Lib.hid hst
        clear hst hf
        go_wp2
        go_round
        case rel => exact ⟨j + 1, by omega, by go_num, by rw [HST.out]; go_num⟩
        case measure => simp [intOf]; omega
    · obtain rfl : j = 128 := by omega
      go_wp2
      go_ret
      exact ⟨rfl, rfl⟩
end Go.Proofs.Ytfloemimimkgaaa
