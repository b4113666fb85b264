/- What a tick is where each one that is on sends one frame without lead or tail (in plain Lean). No conditions but those that each theorem names. -/
import Derived.Test.YtommamngklobkaaFs
namespace Go.Proofs.Ytommamngklobkaa
open Go.RowKit
set_option linter.unusedVariables false
/-- Each of S sends its one frame, t ticks of which went by. -/
def Cr (S : List Int) (n : Nat) (f : Int → ByteArray) (t : Int) (B : Int → Bu) : Prop :=
  ∀ x ∈ S, (B x).lead = 0 ∧ (B x).tail = 0 ∧ (B x).fr = [f x] ∧ (B x).done = t ∧ (0 < t → ∀ y, 1 ≤ y → y ≤ (n : Int) → (B x).cf y = okB S x y)
theorem okB_two {S : List Int} {x z y : Int} (hz : z ∈ S) (hne : z ≠ x) : okB S x y = false := by
  unfold okB
  by_cases h1 : y ∈ S
  · simp [h1]
  · have h2 : ¬ z = y := fun e => h1 (e ▸ hz)
    rw [hB_yes hz hne h2]; simp
theorem okB_one (x y : Int) : okB [x] x y = !decide (y = x) := by
  unfold okB hB
  by_cases e : y = x <;> simp [e]
theorem Cr.tick {S : List Int} {n : Nat} {f : Int → ByteArray} {t : Int} {B C : Int → Bu} (h : Cr S n f t B) (ht : 0 ≤ t) (hC : ∀ x ∈ S, ∃ q, C x = qBu q (watched S n x (B x))) : Cr S n f (t + 1) C := by
  intro x hx
  obtain ⟨q, e⟩ := hC x hx
  obtain ⟨h1, h2, h3, h4, h5⟩ := h x hx
  rw [watched_yes h1 (by rw [h3]; simp)] at e
  rw [e]
  refine ⟨h1, h2, h3, by show (B x).done + 1 = t + 1; omega, fun _ y y1 y2 => ?_⟩
  show wF S x (B x).done (B x).cf n y = okB S x y
  unfold wF
  rw [if_pos ⟨y1, y2⟩, h4]
  by_cases e0 : t = 0
  · rw [if_pos e0]
  · rw [if_neg e0, h5 (by omega) y y1 y2]; simp
theorem Cr.ready {S : List Int} {n : Nat} {f : Int → ByteArray} {t : Int} {B : Int → Bu} (h : Cr S n f t B) (ht : t ≤ 15) (hok : ∀ x ∈ S, BuOk (B x)) : ∀ x ∈ S, ∀ q, Ready (qBu q (watched S n x (B x))) := by
  intro x hx q
  obtain ⟨h1, h2, h3, h4, h5⟩ := h x hx
  refine ⟨(hok x hx).watched (by omega) q, ⟨q, rfl⟩, fun _ hf => ?_⟩
  rw [watched_yes h1 (by rw [h3]; simp)] at hf
  have : (B x).fr = [] := hf
  rw [h3] at this; cases this
theorem stepped_mid {B : Bu} {s : ByteArray} (h1 : B.lead = 0) (h3 : B.fr = [s]) (hd : B.done < longI s) : stepped B = B := by
  unfold stepped; rw [if_neg (by omega), h3]; simp only [if_pos hd]
theorem stepped_last {B : Bu} {s : ByteArray} (h1 : B.lead = 0) (h3 : B.fr = [s]) (hd : ¬ B.done < longI s) : stepped B = sentBu [] B := by
  unfold stepped; rw [if_neg (by omega), h3]; simp only [if_neg hd]
theorem outB_mid {B : Bu} {s : ByteArray} {n : Nat} {x : Int} (h3 : B.fr = [s]) (hd : B.done < longI s) : outB n x B = [] := by
  unfold outB
  split
  · rfl
  · rw [h3]; simp only [if_pos hd]
theorem outB_last {B : Bu} {s : ByteArray} {n : Nat} {x : Int} (h1 : B.lead = 0) (h3 : B.fr = [s]) (hd : ¬ B.done < longI s) : outB n x B = outL x B.cf s n := by
  unfold outB; rw [if_neg (by omega), h3]; simp only [if_neg hd]
theorem outsK_nil {n : Nat} {S : List Int} {C : Int → Bu} (h : ∀ x ∈ S, outB n x (C x) = []) (k : Nat) : outsK n S C k = [] := by
  induction k with
  | zero => rfl
  | succ k ih =>
    simp only [outsK, ih]
    by_cases e : ((k : Int) + 1) ∈ S
    · rw [if_pos e, h _ e]; rfl
    · rw [if_neg e]; rfl
/-- A tick in the midst. -/
theorem Cr.mid {S : List Int} {n : Nat} {f : Int → ByteArray} {t : Int} {C : Int → Bu} (h : Cr S n f t C) (hm : ∀ x ∈ S, t < longI (f x)) :
    outsK n S C n = [] ∧ S.filter (keepB C) = S ∧ Cr S n f t (fun x => stepped (C x)) := by
  refine ⟨outsK_nil (fun x hx => ?_) n, List.filter_eq_self.2 (fun x hx => ?_), fun x hx => ?_⟩
  · obtain ⟨h1, h2, h3, h4, h5⟩ := h x hx
    exact outB_mid h3 (by rw [h4]; exact hm x hx)
  · obtain ⟨h1, h2, h3, h4, h5⟩ := h x hx
    have := hm x hx
    unfold keepB
    rw [stepped_mid h1 h3 (by rw [h4]; exact hm x hx)]
    have : ¬ leftI (C x) = 0 := by unfold leftI; rw [h1, h2, h3, h4]; simp only [sumL]; omega
    simp [this]
  · obtain ⟨h1, h2, h3, h4, h5⟩ := h x hx
    simp only [stepped_mid h1 h3 (by rw [h4]; exact hm x hx)]
    exact ⟨h1, h2, h3, h4, h5⟩
/-- A last tick. -/
theorem Cr.last {S : List Int} {n : Nat} {f : Int → ByteArray} {t : Int} {C : Int → Bu} (h : Cr S n f t C) (hm : ∀ x ∈ S, t = longI (f x)) :
    S.filter (keepB C) = [] ∧ ∀ x ∈ S, outB n x (C x) = outL x (C x).cf (f x) n := by
  refine ⟨?_, fun x hx => ?_⟩
  · rw [List.filter_eq_nil_iff]
    intro x hx
    obtain ⟨h1, h2, h3, h4, h5⟩ := h x hx
    unfold keepB
    rw [stepped_last h1 h3 (by rw [h4, hm x hx]; omega)]
    have : leftI (sentBu [] (C x)) = 0 := by unfold leftI sentBu; simp only [sumL]; rw [h1, h2]; rfl
    simp [this]
  · obtain ⟨h1, h2, h3, h4, h5⟩ := h x hx
    exact outB_last h1 h3 (by rw [h4, hm x hx]; omega)
theorem outL_nil {i : Int} {cf : Int → Bool} {s : ByteArray} (k : Nat) (h : ∀ y, 1 ≤ y → y ≤ (k : Int) → cf y = false) : outL i cf s k = [] := by
  induction k with
  | zero => rfl
  | succ k ih => simp only [outL]; rw [h _ (by omega) (by omega)]; simp; exact ih (fun y h1 h2 => h y h1 (by omega))
theorem outL_len_one {i : Int} {cf : Int → Bool} {s : ByteArray} (k : Nat) (hi : 1 ≤ i) (h : ∀ y, 1 ≤ y → y ≤ (k : Int) → cf y = !decide (y = i)) : ((outL i cf s k).length : Int) = if i ≤ k then (k : Int) - 1 else k := by
  induction k with
  | zero => simp only [outL]; rw [if_neg (by omega)]; rfl
  | succ k ih =>
    have ih' := ih (fun y h1 h2 => h y h1 (by omega))
    simp only [outL]
    rw [h _ (by omega) (by omega)]
    by_cases e : (k : Int) + 1 = i
    · have c1 : ¬ i ≤ (k : Int) := by omega
      have c2 : i ≤ ((k + 1 : Nat) : Int) := by omega
      rw [if_neg c1] at ih'
      rw [if_pos c2, decide_eq_true e]
      simp; omega
    · rw [decide_eq_false e]
      simp only [Bool.not_false, if_true, List.length_append, List.length_singleton]
      by_cases e2 : i ≤ (k : Int)
      · have c2 : i ≤ ((k + 1 : Nat) : Int) := by omega
        rw [if_pos e2] at ih'; rw [if_pos c2]; omega
      · have c2 : ¬ i ≤ ((k + 1 : Nat) : Int) := by omega
        rw [if_neg e2] at ih'; rw [if_neg c2]; omega
theorem outL_s {i : Int} {cf : Int → Bool} {s : ByteArray} (k : Nat) : ∀ g ∈ outL i cf s k, g.s = s := by
  induction k with
  | zero => simp [outL]
  | succ k ih =>
    intro g hg
    simp only [outL] at hg
    split at hg
    · rcases List.mem_append.1 hg with h | h
      · exact ih g h
      · rw [List.mem_singleton.1 h]
    · exact ih g hg
theorem outsK_s {n : Nat} {S : List Int} {C : Int → Bu} {s : ByteArray} (h : ∀ x ∈ S, ∀ g ∈ outB n x (C x), g.s = s) (k : Nat) : ∀ g ∈ outsK n S C k, g.s = s := by
  induction k with
  | zero => simp [outsK]
  | succ k ih =>
    intro g hg
    simp only [outsK] at hg
    rcases List.mem_append.1 hg with h1 | h1
    · exact ih g h1
    · split at h1
      · rename_i e; exact h _ e g h1
      · cases h1
theorem outsK_one {n : Nat} {C : Int → Bu} {x : Int} (hx : 1 ≤ x) (k : Nat) : outsK n [x] C k = if x ≤ (k : Int) then outB n x (C x) else [] := by
  induction k with
  | zero => simp only [outsK]; rw [if_neg (by omega)]
  | succ k ih =>
    simp only [outsK, ih]
    by_cases e : (k : Int) + 1 = x
    · have c1 : ¬ x ≤ (k : Int) := by omega
      have c2 : x ≤ ((k + 1 : Nat) : Int) := by omega
      have c3 : ((k : Int) + 1) ∈ [x] := by simpa using e
      rw [if_neg c1, if_pos c3, if_pos c2, e]; rfl
    · have c3 : ((k : Int) + 1) ∉ [x] := by simpa using e
      rw [if_neg c3, List.append_nil]
      by_cases e2 : x ≤ (k : Int)
      · have c2 : x ≤ ((k + 1 : Nat) : Int) := by omega
        rw [if_pos e2, if_pos c2]
      · have c2 : ¬ x ≤ ((k + 1 : Nat) : Int) := by omega
        rw [if_neg e2, if_neg c2]
/-- How many frames come at the last tick. -/
theorem Cr.count {S : List Int} {n : Nat} {f : Int → ByteArray} {t : Int} {C : Int → Bu} (h : Cr S n f t C) (ht : 0 < t) (hm : ∀ x ∈ S, t = longI (f x)) (hn : S.Nodup) (hsub : ∀ x ∈ S, 1 ≤ x ∧ x ≤ (n : Int)) :
    ((outsK n S C n).length : Int) = if S.length = 1 then (n : Int) - 1 else 0 := by
  have hl := (h.last hm).2
  match S, h, hn, hsub, hl with
  | [], _, _, _, _ => rw [if_neg (by simp), outsK_nil (by simp)]; rfl
  | [x], h, _, hsub, hl =>
    have hx := hsub x (by simp)
    rw [if_pos (show [x].length = 1 from rfl), outsK_one hx.1, if_pos hx.2, hl x (by simp)]
    have h5 := (h x (by simp)).2.2.2.2 ht
    rw [outL_len_one n hx.1 (fun y y1 y2 => by rw [h5 y y1 y2, okB_one]), if_pos hx.2]
  | x :: z :: r, h, hn, hsub, hl =>
    rw [if_neg (by simp), outsK_nil (fun y hy => ?_)]
    · rfl
    · rw [hl y hy]
      have h5 := (h y hy).2.2.2.2 ht
      have hxz : x ≠ z := by
        have := (List.nodup_cons.1 hn).1
        intro e; exact this (by simp [e])
      refine outL_nil n (fun u u1 u2 => ?_)
      rw [h5 u u1 u2]
      by_cases e : y = x
      · exact okB_two (z := z) (by simp) (by rw [e]; exact Ne.symm hxz)
      · exact okB_two (z := x) (by simp) (Ne.symm e)
end Go.Proofs.Ytommamngklobkaa
