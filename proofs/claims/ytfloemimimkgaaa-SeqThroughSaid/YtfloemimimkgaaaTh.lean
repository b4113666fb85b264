/- What Take does with the numbers that a sender has open, in plain words; a slice of pairs that came in. No conditions but those that each theorem names. -/
import Derived.Test.YtfloemimimkgaaaRo
import Derived.Deep.SlicePairs
namespace Go.Proofs.Ytfloemimimkgaaa
open Go.RowKit Go.Maps
set_option linter.unusedVariables false
/-- A slice of pairs of ints that came in. -/
def IsPairs (w : World) (a : Option Addr) (len cap : Nat) (z : Nat → Int × Int) : Prop :=
  len = 0 ∨ ∃ b off, a = some ⟨b, off, none⟩ ∧ len ≤ maxLen ∧ ∀ i, i < len → w.cell? ⟨b, off + i * 2, none⟩ = some (.int .i64 (z i).1) ∧ w.cell? ⟨b, off + i * 2 + 1, none⟩ = some (.int .i64 (z i).2) ∧ Wf (z i).1 ∧ Wf (z i).2
theorem open_steps {H : Type} {enc : TypeId × Value → H} {W : World} {a : Option Addr} {len cap : Nat} {d : DataW H} {p : List MemPlace}
    (h : DataW.Trod enc Try.prog W 0 (fun _ => true) true 59 (.slice a len cap) d p) : ∃ z, IsPairs W a len cap z := by
  obtain ⟨fuel, hf⟩ := h
  rcases Go.Deep.open_slice_pairs Try.underlying59 Try.underlying64 (by kernel_rfl) (by kernel_rfl) (by kernel_rfl) (by kernel_rfl) (by kernel_rfl) hf with ⟨hcs, _⟩ | ⟨x, l, c, m, n, V0, V1, D0, D1, P0, P1, hcs, _, hl, hm, hmm, _, hx⟩
  · simp [Value.cells] at hcs
    obtain ⟨rfl, rfl, rfl⟩ := hcs
    exact ⟨fun _ => (0, 0), Or.inl rfl⟩
  · simp [Value.cells] at hcs
    obtain ⟨rfl, rfl, rfl⟩ := hcs
    have hmc : len ≤ m := by rw [hmm]; simp; exact hl
    by_cases h0 : len = 0
    · exact ⟨fun _ => (0, 0), Or.inl h0⟩
    · have hsp : x.spot = none := by
        have := (hx 0 (by omega)).1
        simpa [Addr.add] using World.cell?_spot this
      obtain ⟨b, off, sp⟩ := x
      subst hsp
      have key : ∀ i, ∃ q : Int × Int, i < len → W.cell? ⟨b, off + i * 2, none⟩ = some (.int .i64 q.1) ∧ W.cell? ⟨b, off + i * 2 + 1, none⟩ = some (.int .i64 q.2) ∧ Wf q.1 ∧ Wf q.2 := by
        intro i
        by_cases hi : i < len
        · obtain ⟨g0, g1, g2, g3⟩ := hx i (by omega)
          obtain ⟨x0, e0, _, wf0⟩ := DataW.trod_int Try.underlying3 g2
          obtain ⟨x1, e1, _, wf1⟩ := DataW.trod_int Try.underlying3 g3
          simp at e0 e1
          rw [Go.WideShapes.add_plain] at g0 g1
          exact ⟨(x0, x1), fun _ => ⟨by rw [g0, e0], by rw [Nat.add_assoc, g1, e1], wf0, wf1⟩⟩
        · exact ⟨(0, 0), fun h => absurd h hi⟩
      exact ⟨fun i => Classical.choose (key i), Or.inr ⟨b, off, rfl, by omega, fun i hi => Classical.choose_spec (key i) hi⟩⟩
/-- What comes in order from V on, in plain words. -/
theorem drain_spec {m k O : Int} (hm : m = 8 ∨ m = 128) (hk : k ≤ m / 2) (n : Nat) : ∀ (V : Int) (f : Nat → Bool) (S : List Int), RelS m k V f S → S.Nodup → S.length = n → (∀ i, f i = true → V + i < O) → V ≤ O →
    ∃ (V' : Int) (f' : Nat → Bool), (drain m n (V % m) S).2.1 = V' % m ∧ RelS m k V' f' (drain m n (V % m) S).2.2 ∧ (drain m n (V % m) S).2.2.Nodup ∧ f' 0 = false ∧ V' = V + ((drain m n (V % m) S).1.length : Int) ∧ V' ≤ O ∧
      (∀ i, f' i = true → V' + i < O) ∧ ∀ i : Nat, i < (drain m n (V % m) S).1.length → (drain m n (V % m) S).1.getD i 0 = (V + i) % m := by
  induction n with
  | zero =>
    intro V f S hr hn hl hf hV
    have hS : S = [] := List.eq_nil_of_length_eq_zero hl
    have h0 : f 0 = false := by
      have := hr.mem 0 (by omega)
      rw [hS] at this
      simpa using this
    subst hS
    exact ⟨V, f, rfl, hr, List.nodup_nil, h0, by simp [drain], hV, hf, fun i hi => by simp [drain] at hi⟩
  | succ n ih =>
    intro V f S hr hn hl hf hV
    have hmem := hr.mem 0 (by omega)
    simp only [Int.natCast_zero, Int.add_zero] at hmem
    by_cases h : V % m ∈ S
    · have h0 : f 0 = true := by rw [hmem]; simpa using h
      have hV1 : V + 1 ≤ O := by have := hf 0 h0; omega
      have hr2 := hr.shift hm hk hn h0
      have e1 : (V % m + 1) % m = (V + 1) % m := by rcases hm with rfl | rfl <;> omega
      have hf2 : ∀ i, shf f i = true → V + 1 + i < O := by
        intro i hi
        unfold shf at hi
        by_cases h1 : i < 127
        · rw [if_pos h1] at hi
          have := hf (i + 1) hi
          omega
        · rw [if_neg h1] at hi
          have := hr.out i (by omega)
          rw [this] at hi; cases hi
      obtain ⟨V', f', g1, g2, g3, g4, g5, g6, g7, g8⟩ := ih (V + 1) (shf f) (S.erase (V % m)) hr2 (hn.erase _) (by rw [List.length_erase_of_mem h]; omega) hf2 hV1
      have hd : drain m (n + 1) (V % m) S = (V % m :: (drain m n ((V + 1) % m) (S.erase (V % m))).1, (drain m n ((V + 1) % m) (S.erase (V % m))).2) := by simp [drain, h, e1]
      rw [hd]
      refine ⟨V', f', g1, g2, g3, g4, by simp only [List.length_cons]; omega, g6, g7, ?_⟩
      intro i hi
      cases i with
      | zero => simp
      | succ i =>
        simp only [List.length_cons] at hi
        have := g8 i (by omega)
        simp only [List.getD_cons_succ]
        rw [this]
        congr 1; omega
    · have h0 : f 0 = false := by rw [hmem]; simpa using h
      have hd : drain m (n + 1) (V % m) S = ([], V % m, S) := by simp [drain, h]
      rw [hd]
      exact ⟨V, f, rfl, hr, hn, h0, by simp, hV, hf, fun i hi => by simp at hi⟩
theorem tk_through {m k : Int} (hm : m = 8 ∨ m = 128) (hk1 : 1 ≤ k) (hk : k ≤ m / 2) (V A O x : Nat) (f : Nat → Bool) (S : List Int) (hr : RelS m k V f S) (hn : S.Nodup) (h0 : f 0 = false)
    (hAV : A ≤ V) (hVO : V ≤ O) (hOA : (O : Int) - A ≤ k) (hf : ∀ i, f i = true → (V : Int) + i < O) (hx0 : A ≤ x) (hx1 : x < O) :
    ∃ (V' : Int) (f' : Nat → Bool), (tk m k ((V : Int) % m) S ((x : Int) % m)).2.2.1 = V' % m ∧ RelS m k V' f' (tk m k ((V : Int) % m) S ((x : Int) % m)).2.2.2 ∧ (tk m k ((V : Int) % m) S ((x : Int) % m)).2.2.2.Nodup ∧ f' 0 = false ∧
      V' = V + ((tk m k ((V : Int) % m) S ((x : Int) % m)).1.length : Int) ∧ V' ≤ O ∧ (∀ i, f' i = true → V' + i < O) ∧ ∀ i : Nat, i < (tk m k ((V : Int) % m) S ((x : Int) % m)).1.length → (tk m k ((V : Int) % m) S ((x : Int) % m)).1.getD i 0 = ((V : Int) + i) % m := by
  have hb : 0 ≤ (x : Int) % m ∧ (x : Int) % m < m := ⟨Int.emod_nonneg _ (by omega), Int.emod_lt_of_pos _ (by omega)⟩
  have hV3 : 0 ≤ (V : Int) % m ∧ (V : Int) % m < m := ⟨Int.emod_nonneg _ (by omega), Int.emod_lt_of_pos _ (by omega)⟩
  have hok : ok1B m ((x : Int) % m) = true := by simp [ok1B, inB, modB]; omega
  have hok2 : ok2B m ((V : Int) % m) ((x : Int) % m) = true := by simp [ok2B, inB, modB]; omega
  have same : ∀ en : Int, ∃ (V' : Int) (f' : Nat → Bool), (([], en, (V : Int) % m, S) : List Int × Int × Int × List Int).2.2.1 = V' % m ∧ RelS m k V' f' (([], en, (V : Int) % m, S) : List Int × Int × Int × List Int).2.2.2 ∧ (([], en, (V : Int) % m, S) : List Int × Int × Int × List Int).2.2.2.Nodup ∧ f' 0 = false ∧
      V' = V + ((([], en, (V : Int) % m, S) : List Int × Int × Int × List Int).1.length : Int) ∧ V' ≤ O ∧ (∀ i, f' i = true → V' + i < O) ∧ ∀ i : Nat, i < (([], en, (V : Int) % m, S) : List Int × Int × Int × List Int).1.length → (([], en, (V : Int) % m, S) : List Int × Int × Int × List Int).1.getD i 0 = ((V : Int) + i) % m :=
    fun en => ⟨V, f, rfl, hr, hn, h0, by simp, by omega, hf, fun i hi => by simp at hi⟩
  unfold tk
  rw [hok]
  simp only [Bool.true_eq_false, if_false]
  by_cases h2 : (x : Int) % m ∈ S
  · rw [if_pos h2]; exact same 8
  · rw [if_neg h2]
    by_cases h3 : k ≤ farI m ((V : Int) % m) ((x : Int) % m)
    · rw [if_pos h3]; exact same 7
    · rw [if_neg h3]
      have hfar : farI m ((V : Int) % m) ((x : Int) % m) = (x : Int) - V ∧ V ≤ x := by
        rw [farI, if_pos hok2] at h3 ⊢
        rcases hm with rfl | rfl <;> omega
      obtain ⟨D, rfl⟩ : ∃ D : Nat, x = V + D := ⟨x - V, by omega⟩
      have hDk : (D : Int) < k := by omega
      have hfD : f D = false := by
        rw [hr.mem D (by omega)]
        have e : ((V : Int) + D) % m = ((V + D : Nat) : Int) % m := by congr 1
        rw [e]; simpa using h2
      have hr1 := hr.put hm hk D hDk hfD
      rw [show ((V : Int) + D) % m = ((V + D : Nat) : Int) % m by congr 1] at hr1
      have hf1 : ∀ i, upd f D true i = true → (V : Int) + i < O := by
        intro i hi
        by_cases e : i = D
        · subst e; omega
        · have : f i = true := by simpa [upd, e] using hi
          exact hf i this
      exact drain_spec hm hk (S.length + 1) V (upd f D true) _ hr1 (List.nodup_cons.2 ⟨h2, hn⟩) (by simp) hf1 (by omega)
theorem vr31q {w : World} {b bm : Nat} {m k vr : Int} {S : List Int} (h : InW w b bm m k vr S) (n : Nat) : Calls Try.prog 31 #[.pointer (some ⟨b, 0, none⟩)] (w.drewN n) fun e w' => e = .returned (.int .i64 vr) ∧ ∃ m, w' = w.drewN m :=
  Calls.quiet_of_same ((vr31 b bm m k vr S _ (h.drewN n)).mono fun _ _ h => ⟨h.1, h.2.symm⟩)
theorem IsPairs.at {w : World} {a : Option Addr} {len cap : Nat} {z : Nat → Int × Int} (h : IsPairs w a len cap z) (i : Nat) (hi : i < len) :
    ∃ b off, a = some ⟨b, off, none⟩ ∧ b < w.heap.size ∧ w.cell? ⟨b, off + i * 2, none⟩ = some (.int .i64 (z i).1) ∧ w.cell? ⟨b, off + i * 2 + 1, none⟩ = some (.int .i64 (z i).2) ∧ Wf (z i).1 ∧ Wf (z i).2 ∧ len ≤ maxLen := by
  rcases h with h | ⟨b, off, ha, hl, hc⟩
  · omega
  · obtain ⟨c0, c1, f0, f1⟩ := hc i hi
    exact ⟨b, off, ha, cell_lt c0, c0, c1, f0, f1, hl⟩
theorem RowI.at {w : World} {base : Nat} {v : Value} {xs : List Int} (h : RowI w base v xs) : ∃ ad cap, v = .slice ad xs.length cap ∧ ∀ i, i < xs.length → ∃ g, ad = some ⟨g, 0, none⟩ ∧ w.cell? ⟨g, i, none⟩ = some (.int .i64 (xs.getD i 0)) := by
  rcases h.shape with ⟨rfl, rfl⟩ | ⟨g, cap, cur, rfl, _, hh, _, _, hc⟩
  · exact ⟨none, 0, rfl, fun i hi => by simp at hi⟩
  · exact ⟨_, cap, rfl, fun i hi => ⟨g, rfl, by rw [cell_of hh]; exact hc i hi⟩⟩
def Thr (m k : Int) (j A O V : Nat) (f : Nat → Bool) (S : List Int) : Prop :=
  RelS m k V f S ∧ S.Nodup ∧ f 0 = false ∧ A ≤ V ∧ V ≤ O ∧ (O : Int) - A ≤ k ∧ (∀ i, f i = true → (V : Int) + i < O) ∧ O ≤ j
theorem Thr.more {m k : Int} {j A O V : Nat} {f : Nat → Bool} {S : List Int} (h : Thr m k j A O V f S) {j' : Nat} (hj : j ≤ j') : Thr m k j' A O V f S := ⟨h.1, h.2.1, h.2.2.1, h.2.2.2.1, h.2.2.2.2.1, h.2.2.2.2.2.1, h.2.2.2.2.2.2.1, by have := h.2.2.2.2.2.2.2; omega⟩
theorem Thr.acked {m k : Int} {j A O V : Nat} {f : Nat → Bool} {S : List Int} (h : Thr m k j A O V f S) {j' : Nat} (hj : j ≤ j') : Thr m k j' V O V f S :=
  ⟨h.1, h.2.1, h.2.2.1, by omega, h.2.2.2.2.1, by have := h.2.2.2.1; have := h.2.2.2.2.2.1; omega, h.2.2.2.2.2.2.1, by have := h.2.2.2.2.2.2.2; omega⟩
theorem opn_getD (m : Int) (A n t : Nat) (ht : t < n) : (opn m A n).getD t 0 = ((A + t : Nat) : Int) % m := by
  induction n with
  | zero => omega
  | succ n ih =>
    simp only [opn]
    by_cases e : t = n
    · subst e
      rw [List.getD_eq_getElem?_getD, List.getElem?_append_right (by rw [opn_len]; exact Nat.le_refl _), opn_len]
      simp
    · rw [List.getD_eq_getElem?_getD, List.getElem?_append_left (by rw [opn_len]; omega), ← List.getD_eq_getElem?_getD]
      exact ih (by omega)
theorem Thr.opened {m k : Int} {j A O V : Nat} {f : Nat → Bool} {S : List Int} (h : Thr m k j A O V f S) (hk : (O : Int) - A + 1 ≤ k) : Thr m k (j + 1) A (O + 1) V f S :=
  ⟨h.1, h.2.1, h.2.2.1, h.2.2.2.1, by have := h.2.2.2.2.1; omega, by omega, fun i hi => by have := h.2.2.2.2.2.2.1 i hi; omega, by have := h.2.2.2.2.2.2.2; omega⟩
theorem Thr.start (m k : Int) (hk : 1 ≤ k) : Thr m k 0 0 0 0 (fun _ => false) [] := by
  refine ⟨⟨fun i _ => by simp, fun _ _ => rfl, ?_⟩, List.nodup_nil, rfl, by omega, by omega, by omega, fun i hi => by simp at hi, by omega⟩
  have : ∀ n, cnt (fun _ => false) n = 0 := by
    intro n
    induction n with
    | zero => rfl
    | succ n ih => simp [cnt, ih]
  simp [this]
end Go.Proofs.Ytfloemimimkgaaa
