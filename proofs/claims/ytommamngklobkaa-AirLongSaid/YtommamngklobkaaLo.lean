/- One burst's ticks, one by one (in plain Lean); the contract of Tick for one burst alone. No conditions but those that each theorem names. -/
import Derived.Test.YtommamngklobkaaCt
namespace Go.Proofs.Ytommamngklobkaa
open Go.RowKit
set_option linter.unusedVariables false
/-- The burst of station 2 of three, T ticks of which went by, k of its frames having come. -/
structure LS (lead tail : Int) (fr : List ByteArray) (T : Int) (k : Nat) (B : Bu) : Prop where
  kl : k ≤ fr.length
  fe : B.fr = fr.drop k
  ld : 0 ≤ B.lead ∧ B.lead ≤ lead
  tl : 0 ≤ B.tail ∧ B.tail ≤ tail
  dn : 0 ≤ B.done
  time : T = (lead - B.lead) + sumL (fr.take k) + B.done + (tail - B.tail)
  l0 : 0 < B.lead → k = 0 ∧ B.done = 0
  mid : (h : k < fr.length) → B.tail = tail ∧ B.done < longI fr[k]
  fin : k = fr.length → B.done = 0
  cf : 0 < B.done → ∀ y, 1 ≤ y → y ≤ (3 : Int) → B.cf y = okB [2] 2 y
theorem sum_cut (fr : List ByteArray) (k : Nat) : sumL (fr.take k) + sumL (fr.drop k) = sumL fr := by
  rw [← sumL_append, List.take_append_drop]
theorem LS.left {lead tail T : Int} {fr : List ByteArray} {k : Nat} {B : Bu} (h : LS lead tail fr T k B) : leftI B = lead + tail + sumL fr - T := by
  have := sum_cut fr k
  have := h.time
  unfold leftI
  rw [h.fe]; omega
theorem LS.ok {lead tail T : Int} {fr : List ByteArray} {k : Nat} {B : Bu} (h : LS lead tail fr T k B) (hl : lead ≤ 255) (ht : tail ≤ 255) (h7 : fr.length ≤ 7) (hf : ∀ s ∈ fr, s.size ≤ 333) : BuOk B ∧ B.done ≤ 15 := by
  have hd : B.done ≤ 8 := by
    by_cases e : k < fr.length
    · have := (h.mid e).2
      have := longI_bd (hf _ (List.getElem_mem e))
      omega
    · have := h.fin (by have := h.kl; omega); omega
  refine ⟨⟨by have := h.ld; omega, by have := h.tl; omega, by have := h.dn; omega, ?_, fun s hs => ?_⟩, by omega⟩
  · rw [h.fe, List.length_drop]; omega
  · rw [h.fe] at hs; exact hf s (List.mem_of_mem_drop hs)
theorem LS.start (lead tail : Int) (fr : List ByteArray) (hl : 0 ≤ lead) (ht : 0 ≤ tail) (h1 : 1 ≤ fr.length) (hf : ∀ s ∈ fr, s.size ≤ 333) : LS lead tail fr 0 0 (newBu lead tail fr) := by
  refine ⟨by omega, rfl, ⟨hl, Int.le_refl _⟩, ⟨ht, Int.le_refl _⟩, Int.le_refl _, ?_, fun _ => ⟨rfl, rfl⟩, fun h => ⟨rfl, ?_⟩, fun h => rfl, fun h => absurd h (by show ¬ (0 : Int) < 0; omega)⟩
  · show (0 : Int) = (lead - lead) + sumL (fr.take 0) + 0 + (tail - tail)
    simp [sumL]
  · have := longI_bd (hf _ (List.getElem_mem h))
    show (0 : Int) < longI fr[0]; omega
theorem drop_cons {fr : List ByteArray} {k : Nat} (h : k < fr.length) : fr.drop k = fr[k] :: fr.drop (k + 1) := by
  rw [List.drop_eq_getElem_cons h]
theorem LS.ready {lead tail T : Int} {fr : List ByteArray} {k : Nat} {B : Bu} (h : LS lead tail fr T k B) (hl : lead ≤ 255) (ht : tail ≤ 255) (h7 : fr.length ≤ 7) (hf : ∀ s ∈ fr, s.size ≤ 333) (hT : T < lead + tail + sumL fr) (q : Nat) : Ready (qBu q (watched [2] 3 2 B)) := by
  have hok := h.ok hl ht h7 hf
  refine ⟨hok.1.watched hok.2 q, ⟨q, rfl⟩, fun h1 h2 => ?_⟩
  have e1 : (qBu q (watched [2] 3 2 B)).lead = B.lead := by unfold watched; split <;> rfl
  have e2 : (qBu q (watched [2] 3 2 B)).fr = B.fr := by unfold watched; split <;> rfl
  have e3 : (qBu q (watched [2] 3 2 B)).tail = B.tail := by unfold watched; split <;> rfl
  rw [e1] at h1
  rw [e2] at h2
  rw [e3]
  have hle := h.left
  have hk : k = fr.length := by
    have := h.kl
    by_cases e : k < fr.length
    · rw [h.fe, drop_cons e] at h2; cases h2
    · omega
  have hd := h.fin hk
  unfold leftI at hle
  rw [h1, h2, hd] at hle
  simp only [sumL] at hle
  omega
theorem okB_22 (y : Int) : okB [2] 2 y = !decide (y = 2) := okB_one 2 y
theorem outL_three {cf : Int → Bool} {s : ByteArray} (h : ∀ y, 1 ≤ y → y ≤ (3 : Int) → cf y = okB [2] 2 y) : outL 2 cf s 3 = [⟨2, 1, s⟩, ⟨2, 3, s⟩] := by
  have h1 : cf 1 = true := by rw [h 1 (by omega) (by omega), okB_22]; rfl
  have h2 : cf 2 = false := by rw [h 2 (by omega) (by omega), okB_22]; rfl
  have h3 : cf 3 = true := by rw [h 3 (by omega) (by omega), okB_22]; rfl
  have e : outL 2 cf s 3 = outL 2 cf s (2 + 1) := rfl
  simp [outL, h1, h2, h3]
/-- One more tick: a frame comes, or none. -/
theorem LS.tick {lead tail T : Int} {fr : List ByteArray} {k : Nat} {B : Bu} (h : LS lead tail fr T k B) (hf : ∀ s ∈ fr, s.size ≤ 333) (hT : T < lead + tail + sumL fr) (h1 : 1 ≤ fr.length) (q : Nat) :
    (∃ hk : k < fr.length, T + 1 = lead + sumL (fr.take k) + longI fr[k] ∧ outB 3 2 (qBu q (watched [2] 3 2 B)) = [⟨2, 1, fr[k]⟩, ⟨2, 3, fr[k]⟩] ∧ LS lead tail fr (T + 1) (k + 1) (stepped (qBu q (watched [2] 3 2 B)))) ∨
    ((∀ hk : k < fr.length, T + 1 ≠ lead + sumL (fr.take k) + longI fr[k]) ∧ outB 3 2 (qBu q (watched [2] 3 2 B)) = [] ∧ LS lead tail fr (T + 1) k (stepped (qBu q (watched [2] 3 2 B)))) := by
  have hti := h.time
  by_cases hl : 0 < B.lead
  · -- lead
    obtain ⟨rfl, hd⟩ := h.l0 hl
    have hk : 0 < fr.length := by omega
    obtain ⟨m1, m2⟩ := h.mid hk
    have lb := longI_bd (hf _ (List.getElem_mem hk))
    have hw : watched [2] 3 2 B = B := watched_no (Or.inl (by omega))
    rw [hw]
    have e1 : stepped (qBu q B) = { (qBu q B) with lead := B.lead - 1 } := by unfold stepped; rw [if_pos (show 0 < (qBu q B).lead from hl)]; rfl
    refine Or.inr ⟨fun _ e => ?_, ?_, ?_⟩
    · simp only [List.take_zero, sumL] at *; omega
    · unfold outB; rw [if_pos (show 0 < (qBu q B).lead from hl)]
    · rw [e1]
      refine ⟨h.kl, h.fe, ⟨by show 0 ≤ B.lead - 1; omega, by show B.lead - 1 ≤ lead; have := h.ld; omega⟩, h.tl, h.dn, ?_, fun _ => ⟨rfl, hd⟩, fun hk => h.mid hk, fun e => h.fin e, fun e => absurd e (by show ¬ 0 < B.done; omega)⟩
      show T + 1 = (lead - (B.lead - 1)) + sumL (fr.take 0) + B.done + (tail - B.tail)
      omega
  · have hl0 : B.lead = 0 := by have := h.ld; omega
    by_cases hk : k < fr.length
    · -- a frame
      obtain ⟨m1, m2⟩ := h.mid hk
      have hfe : B.fr = fr[k] :: fr.drop (k + 1) := by rw [h.fe, drop_cons hk]
      have hw : watched [2] 3 2 B = watchBu [2] 3 2 B := watched_yes hl0 (by rw [hfe, List.length_cons]; omega)
      rw [hw]
      have hcf : ∀ y, 1 ≤ y → y ≤ (3 : Int) → (qBu q (watchBu [2] 3 2 B)).cf y = okB [2] 2 y := by
        intro y y1 y2
        show wF [2] 2 B.done B.cf 3 y = _
        unfold wF
        rw [if_pos ⟨y1, y2⟩]
        by_cases e0 : B.done = 0
        · rw [if_pos e0]
        · rw [if_neg e0, h.cf (by have := h.dn; omega) y y1 y2]; simp
      have hfq : (qBu q (watchBu [2] 3 2 B)).fr = fr[k] :: fr.drop (k + 1) := hfe
      have hdq : (qBu q (watchBu [2] 3 2 B)).done = B.done + 1 := rfl
      have hlq : (qBu q (watchBu [2] 3 2 B)).lead = 0 := hl0
      by_cases hd : B.done + 1 < longI fr[k]
      · have e1 : stepped (qBu q (watchBu [2] 3 2 B)) = qBu q (watchBu [2] 3 2 B) := by
          unfold stepped; rw [if_neg (by omega), hfq]; simp only [hdq, if_pos hd]
        refine Or.inr ⟨fun _ e => by omega, ?_, ?_⟩
        · unfold outB; rw [if_neg (by omega), hfq]; simp only [hdq, if_pos hd]
        · rw [e1]
          refine ⟨h.kl, h.fe, h.ld, h.tl, by rw [hdq]; have := h.dn; omega, ?_, fun e => absurd e (by omega), fun _ => ⟨m1, hd⟩, fun e => by omega, fun _ => hcf⟩
          show T + 1 = (lead - B.lead) + sumL (fr.take k) + (B.done + 1) + (tail - B.tail)
          omega
      · have e1 : stepped (qBu q (watchBu [2] 3 2 B)) = sentBu (fr.drop (k + 1)) (qBu q (watchBu [2] 3 2 B)) := by
          unfold stepped; rw [if_neg (by omega), hfq]; simp only [hdq, if_neg hd]
        refine Or.inl ⟨hk, by omega, ?_, ?_⟩
        · unfold outB; rw [if_neg (by omega), hfq]; simp only [hdq, if_neg hd]
          exact outL_three hcf
        · rw [e1]
          have hst := sumL_take fr k hk
          refine ⟨by omega, rfl, h.ld, h.tl, Int.le_refl _, ?_, fun e => absurd e (by show ¬ 0 < B.lead; omega), fun hk2 => ⟨m1, ?_⟩, fun _ => rfl, fun e => absurd e (by show ¬ (0 : Int) < 0; omega)⟩
          · show T + 1 = (lead - B.lead) + sumL (fr.take (k + 1)) + 0 + (tail - B.tail)
            omega
          · have := longI_bd (hf _ (List.getElem_mem hk2))
            show (0 : Int) < longI fr[k + 1]; omega
    · -- tail
      have hke : k = fr.length := by have := h.kl; omega
      have hd := h.fin hke
      have hfe : B.fr = [] := by rw [h.fe, hke]; simp
      have hw : watched [2] 3 2 B = B := watched_no (Or.inr (by rw [hfe]; rfl))
      have hle := h.left
      unfold leftI at hle
      rw [hl0, hfe, hd] at hle
      simp only [sumL] at hle
      rw [hw]
      have hfq : (qBu q B).fr = [] := hfe
      have hlq : ¬ 0 < (qBu q B).lead := hl
      have e1 : stepped (qBu q B) = { (qBu q B) with tail := B.tail - 1 } := by
        unfold stepped
        rw [if_neg hlq]
        split
        · rfl
        · rename_i heq; rw [hfq] at heq; cases heq
      refine Or.inr ⟨fun e => absurd e hk, ?_, ?_⟩
      · unfold outB; rw [if_neg hlq, hfq]
      · rw [e1]
        refine ⟨h.kl, h.fe, h.ld, ⟨by show 0 ≤ B.tail - 1; omega, by show B.tail - 1 ≤ tail; have := h.tl; omega⟩, h.dn, ?_, fun e => absurd e hl, fun e => absurd e hk, fun e => h.fin e, fun e => absurd e (by show ¬ 0 < B.done; omega)⟩
        show T + 1 = (lead - B.lead) + sumL (fr.take k) + B.done + (tail - (B.tail - 1))
        omega
/-- The air, T ticks of the burst having gone by, k of its frames having come. -/
def LongI (d : Id) (lead tail : Int) (fr : List ByteArray) (T k : Nat) (w : World) : Prop :=
  ∃ S p N B, AirW w d S p (fun _ => N) B ∧ N ≤ 8 * T ∧ LS lead tail fr T k (B 2) ∧ (((T : Int) < lead + tail + sumL fr ∧ S = [2]) ∨ ((T : Int) = lead + tail + sumL fr ∧ S = []))
theorem LongI.only {d : Id} {lead tail : Int} {fr : List ByteArray} {T k : Nat} {w w' : World} (h : LongI d lead tail fr T k w) (ho : Only [] w w') : LongI d lead tail fr T k w' := by
  obtain ⟨S, p, N, B, h1, h2⟩ := h
  exact ⟨S, p, N, B, h1.same ho, h2⟩
/-- Does a frame come with the tick behind T? -/
def Comes (lead : Int) (fr : List ByteArray) (T k : Nat) : Prop := ∃ hk : k < fr.length, (T : Int) + 1 = lead + sumL (fr.take k) + longI fr[k]
def LongT (w : World) (d : Id) (lead tail : Int) (fr : List ByteArray) (T k k' : Nat) (gs : List G) (e : Ending) (w' : World) : Prop :=
  ∃ v, e = .returned v ∧ GotR w' w.heap.size v gs ∧ Fr d.K d.mo w w' ∧ LongI d lead tail fr (T + 1) k' w'
theorem long_tick {w : World} {d : Id} {lead tail : Int} {fr : List ByteArray} {T k : Nat} (hd : d.n = 3) (h : LongI d lead tail fr T k w) (hl : lead ≤ 255) (ht : tail ≤ 255) (h1 : 1 ≤ fr.length) (h7 : fr.length ≤ 7) (hf : ∀ s ∈ fr, s.size ≤ 333) (hT : (T : Int) < lead + tail + sumL fr) :
    Calls Try.prog 17 #[.pointer (some ⟨d.A, 0, none⟩)] w fun e w' =>
      (∃ hk : k < fr.length, (T : Int) + 1 = lead + sumL (fr.take k) + longI fr[k] ∧ LongT w d lead tail fr T k (k + 1) [⟨2, 1, fr[k]⟩, ⟨2, 3, fr[k]⟩] e w') ∨ (¬ Comes lead fr T k ∧ LongT w d lead tail fr T k k [] e w') := by
  obtain ⟨S, p, N, B, ha, hN, hls, ⟨_, rfl⟩ | ⟨h0, _⟩⟩ := h
  · have hsb := sumL_bd fr hf
    have hls' := hls.ok hl ht h7 hf
    refine (tick17 ha (by omega) (fun x hx => by rw [show x = 2 by simpa using hx]; exact hls'.2) (fun x hx q => by rw [show x = 2 by simpa using hx, hd]; exact hls.ready hl ht h7 hf hT q)).mono ?_
    rintro e w' ⟨v, C, he, hC, hg, ha', hfr⟩
    obtain ⟨q, hq⟩ := hC 2 (by simp)
    rw [hd] at hq
    have hout : outsK d.n [2] C d.n = outB 3 2 (C 2) := by rw [outsK_one (by omega), hd, if_pos (by omega)]
    rw [hout, hq] at hg
    have fin : ∀ k', LS lead tail fr ((T : Int) + 1) k' (stepped (C 2)) → LongI d lead tail fr (T + 1) k' w' := by
      intro k' hk'
      have hle := hk'.left
      by_cases e : (T : Int) + 1 = lead + tail + sumL fr
      · have hS : [2].filter (keepB C) = [] := by
          rw [List.filter_eq_nil_iff]
          intro x hx
          rw [show x = 2 by simpa using hx]
          simp [keepB, hle]; omega
        rw [hS] at ha'
        exact ⟨[], p, _, _, ha', by omega, by simpa using hk', Or.inr ⟨by simpa using e, rfl⟩⟩
      · have hS : [2].filter (keepB C) = [2] := by
          rw [List.filter_eq_self]
          intro x hx
          rw [show x = 2 by simpa using hx]
          simp [keepB, hle]; omega
        rw [hS] at ha'
        exact ⟨[2], p, _, _, ha', by omega, by simpa using hk', Or.inl ⟨by omega, rfl⟩⟩
    rcases hls.tick hf hT h1 q with ⟨hk, hc, ho, hn⟩ | ⟨hc, ho, hn⟩
    · rw [ho] at hg
      rw [← hq] at hn
      exact Or.inl ⟨hk, hc, v, he, hg, hfr, fin _ hn⟩
    · rw [ho] at hg
      rw [← hq] at hn
      exact Or.inr ⟨fun ⟨hk, e⟩ => hc hk e, v, he, hg, hfr, fin _ hn⟩
  · omega
theorem long_yes {w : World} {d : Id} {lead tail : Int} {fr : List ByteArray} {T k : Nat} (hd : d.n = 3) (h : LongI d lead tail fr T k w) (hl : lead ≤ 255) (ht : tail ≤ 255) (h1 : 1 ≤ fr.length) (h7 : fr.length ≤ 7) (hf : ∀ s ∈ fr, s.size ≤ 333) (hT : (T : Int) < lead + tail + sumL fr)
    (hk : k < fr.length) (hc : (T : Int) + 1 = lead + sumL (fr.take k) + longI fr[k]) : Calls Try.prog 17 #[.pointer (some ⟨d.A, 0, none⟩)] w (LongT w d lead tail fr T k (k + 1) [⟨2, 1, fr[k]⟩, ⟨2, 3, fr[k]⟩]) :=
  (long_tick hd h hl ht h1 h7 hf hT).mono fun e w' hh => by
    rcases hh with ⟨_, _, hh⟩ | ⟨hn, _⟩
    · exact hh
    · exact absurd ⟨hk, hc⟩ hn
theorem long_no {w : World} {d : Id} {lead tail : Int} {fr : List ByteArray} {T k : Nat} (hd : d.n = 3) (h : LongI d lead tail fr T k w) (hl : lead ≤ 255) (ht : tail ≤ 255) (h1 : 1 ≤ fr.length) (h7 : fr.length ≤ 7) (hf : ∀ s ∈ fr, s.size ≤ 333) (hT : (T : Int) < lead + tail + sumL fr)
    (hc : ¬ Comes lead fr T k) : Calls Try.prog 17 #[.pointer (some ⟨d.A, 0, none⟩)] w (LongT w d lead tail fr T k k []) :=
  (long_tick hd h hl ht h1 h7 hf hT).mono fun e w' hh => by
    rcases hh with ⟨hk, hh, _⟩ | ⟨_, hh⟩
    · exact absurd ⟨hk, hh⟩ hc
    · exact hh
/-- What is asked of the air while the burst is on. -/
theorem LongI.on {w : World} {d : Id} {lead tail : Int} {fr : List ByteArray} {T k : Nat} (h : LongI d lead tail fr T k w) (hT : (T : Int) < lead + tail + sumL fr) : ∃ p N B, AirW w d [2] p (fun _ => N) B ∧ leftI (B 2) = lead + tail + sumL fr - T := by
  obtain ⟨S, p, N, B, ha, hN, hls, ⟨_, rfl⟩ | ⟨h0, _⟩⟩ := h
  · exact ⟨p, N, B, ha, hls.left⟩
  · omega
theorem LongI.off {w : World} {d : Id} {lead tail : Int} {fr : List ByteArray} {T k : Nat} (h : LongI d lead tail fr T k w) (hT : (T : Int) = lead + tail + sumL fr) (hf : ∀ s ∈ fr, s.size ≤ 333) : k = fr.length ∧ ∃ p N B, AirW w d [] p (fun _ => N) B := by
  obtain ⟨S, p, N, B, ha, hN, hls, ⟨h0, rfl⟩ | ⟨h0, rfl⟩⟩ := h
  · omega
  · refine ⟨?_, p, N, B, ha⟩
    have hle := hls.left
    have := hls.kl
    by_cases e : k < fr.length
    · have hm := (hls.mid e).2
      have hs := sumL_bd (fr.drop (k + 1)) (fun s hs => hf s (List.mem_of_mem_drop hs))
      unfold leftI at hle
      rw [hls.fe, drop_cons e] at hle
      simp only [sumL] at hle
      have := hls.ld
      have := hls.tl
      omega
    · omega
end Go.Proofs.Ytommamngklobkaa
