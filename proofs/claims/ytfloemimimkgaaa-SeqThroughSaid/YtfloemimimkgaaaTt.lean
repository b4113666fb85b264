/- Take of the taker's window, and of the reference's, each in one contract, by one word. No conditions but those that each theorem names. -/
import Derived.Test.YtfloemimimkgaaaRt
namespace Go.Proofs.Ytfloemimimkgaaa
open Go.RowKit Go.Maps
set_option linter.unusedVariables false
/-- What Take does, in one word: what comes, the error's number, the next one, what waits. -/
def tk (m k v : Int) (S : List Int) (ns : Int) : List Int × Int × Int × List Int :=
  if ok1B m ns = false then ([], 1, v, S) else if ns ∈ S then ([], 8, v, S) else if k ≤ farI m v ns then ([], 7, v, S) else ((drain m (S.length + 1) v (ns :: S)).1, 0, (drain m (S.length + 1) v (ns :: S)).2)
def P29 (w : World) (b bm : Nat) (m k : Int) (r : List Int × Int × Int × List Int) (e : Ending) (w' : World) : Prop :=
  ∃ v, e = .returned (.tuple #[v, .int .i64 r.2.1]) ∧ RowI w' w.heap.size v r.1 ∧ InW w' b bm m k r.2.2.1 r.2.2.2 ∧ Only [b, bm] w w'
def R33 (w : World) (b : Nat) (m k V0 : Int) (r : List Int × Int × Int × List Int) (e : Ending) (w' : World) : Prop :=
  ∃ v V f, e = .returned (.tuple #[v, .int .i64 r.2.1]) ∧ RowI w' w.heap.size v r.1 ∧ RefIn w' b m k V f ∧ Only [b] w w' ∧ RelS m k V f r.2.2.2 ∧ r.2.2.2.Nodup ∧ r.2.2.1 = V % m ∧ V = V0 + r.1.length ∧ f 0 = false
theorem take29 (b bm : Nat) (m k v ns : Int) (S : List Int) (w : World) (h : InW w b bm m k v S) (hw : Wf ns) (hm : m = 8 ∨ m = 128) (hv0 : 0 ≤ v) (hv1 : v < m) (hlen : S.length ≤ 500) :
    Calls Try.prog 29 #[.pointer (some ⟨b, 0, none⟩), .int .i64 ns] w (P29 w b bm m k (tk m k v S ns)) := by
  unfold tk
  cases h1 : ok1B m ns
  · simp only [if_true]
    exact (take_bad b bm m k v ns S w h h1).mono fun e w' ⟨he, hb⟩ => ⟨_, he, RowI.nil _ _, h.below hb, (Only.of_below hb).mono (by simp)⟩
  · simp only [Bool.true_eq_false, if_false]
    by_cases h2 : ns ∈ S
    · rw [if_pos h2]
      exact (take_there b bm m k v ns S w h h1 hw h2).mono fun e w' ⟨he, hb⟩ => ⟨_, he, RowI.nil _ _, h.below hb, (Only.of_below hb).mono (by simp)⟩
    · rw [if_neg h2]
      by_cases h3 : k ≤ farI m v ns
      · rw [if_pos h3]
        exact (take_far b bm m k v ns S w h h1 hw h2 h3).mono fun e w' ⟨he, hb⟩ => ⟨_, he, RowI.nil _ _, h.below hb, (Only.of_below hb).mono (by simp)⟩
      · rw [if_neg h3]
        exact (take_in b bm m k v ns S w h h1 h2 (by omega) hv0 hv1 hlen).mono fun e w' hp => hp
theorem rtake33 (b : Nat) (m k V ns : Int) (f : Nat → Bool) (S : List Int) (w : World) (h : RefIn w b m k V f) (hm : m = 8 ∨ m = 128) (hk1 : 1 ≤ k) (hk : k ≤ m / 2) (hV : 0 ≤ V) (hV1 : V ≤ 90000) (hr : RelS m k V f S) (hn : S.Nodup) (hf0 : f 0 = false) :
    Calls Try.prog 33 #[.pointer (some ⟨b, 0, none⟩), .int .i64 ns] w (R33 w b m k V (tk m k (V % m) S ns)) := by
  unfold tk
  cases h1 : ok1B m ns
  · simp only [if_true]
    have hb : ns < 0 ∨ m ≤ ns := by
      have : modB m = true := by simp [modB]; exact hm
      simp [ok1B, inB, this] at h1; omega
    exact (rtake_bad b m k V ns f w h hb).mono fun e w' ⟨v, he, hrow, hin, ho⟩ => ⟨v, V, f, he, hrow, hin, ho, hr, hn, rfl, by simp, hf0⟩
  · simp only [Bool.true_eq_false, if_false]
    have hb : 0 ≤ ns ∧ ns < m := by simp [ok1B, inB, modB] at h1; omega
    have hV3 : 0 ≤ V % m ∧ V % m < m := ⟨Int.emod_nonneg _ (by omega), Int.emod_lt_of_pos _ (by omega)⟩
    have hok : ok2B m (V % m) ns = true := by simp [ok2B, inB, modB]; omega
    have hfb := farI_bd hok
    obtain ⟨D, hD⟩ := Int.eq_ofNat_of_zero_le hfb.1
    have hDm : (D : Int) < m := by omega
    have hmem := hr.mem D hDm
    have hVD : (V + D) % m = ns := by
      rw [farI, if_pos hok] at hD
      rcases hm with rfl | rfl <;> omega
    rw [hVD] at hmem
    by_cases h2 : ns ∈ S
    · rw [if_pos h2]
      exact (rtake_no b m k V ns f w h hm hV (by omega) hb.1 hb.2 D hD hDm 8 (Or.inl ⟨by rw [hmem]; simpa using h2, rfl⟩)).mono fun e w' ⟨v, he, hrow, hin, ho⟩ => ⟨v, V, f, he, hrow, hin, ho, hr, hn, rfl, by simp, hf0⟩
    · rw [if_neg h2]
      have hfD : f D = false := by rw [hmem]; simpa using h2
      rw [hD]
      by_cases h3 : k ≤ (D : Int)
      · rw [if_pos h3]
        exact (rtake_no b m k V ns f w h hm hV (by omega) hb.1 hb.2 D hD hDm 7 (Or.inr ⟨hfD, h3, rfl⟩)).mono fun e w' ⟨v, he, hrow, hin, ho⟩ => ⟨v, V, f, he, hrow, hin, ho, hr, hn, rfl, by simp, hf0⟩
      · rw [if_neg h3]
        exact (rtake_in b m k V ns f S w h hm hk hV hV1 hb.1 hb.2 D hD (by omega) hfD hr hn h2).mono fun e w' ⟨v, V', f', he, hrow, hin, ho, hr', hn', hv', hVV, h0⟩ => ⟨v, V', f', he, hrow, hin, ho, hr', hn', hv', hVV, h0⟩
theorem drain_len (m : Int) (n : Nat) : ∀ (v : Int) (S : List Int), (drain m n v S).1.length ≤ n := by
  induction n with
  | zero => intro v S; simp [drain]
  | succ n ih =>
    intro v S
    simp only [drain]
    by_cases h : v ∈ S
    · rw [if_pos h]; simp only [List.length_cons]; have := ih ((v + 1) % m) (S.erase v); omega
    · rw [if_neg h]; simp
theorem tk_len (m k v : Int) (S : List Int) (ns : Int) : (tk m k v S ns).1.length ≤ S.length + 1 := by
  unfold tk
  split
  · simp
  · split
    · simp
    · split
      · simp
      · exact drain_len _ _ _ _
/-- Fewer wait than the window is long. -/
theorem RelS.few {m k V : Int} {f : Nat → Bool} {S : List Int} (h : RelS m k V f S) (hk : 1 ≤ k) (hk2 : k ≤ 64) (h0 : f 0 = false) : (S.length : Int) < k := by
  have key : ∀ n : Nat, 1 ≤ n → (n : Int) ≤ k → cnt f n + 1 ≤ n := by
    intro n
    induction n with
    | zero => intro h; omega
    | succ n ih =>
      intro _ hn
      by_cases e : n = 0
      · subst e; simp [cnt, h0]
      · have := ih (by omega) (by omega)
        simp only [cnt]; split <;> omega
  have rest : ∀ n : Nat, cnt f (k.toNat + n) = cnt f k.toNat := by
    intro n
    induction n with
    | zero => rfl
    | succ n ih =>
      rw [← Nat.add_assoc]; simp only [cnt]
      rw [ih, h.out (k.toNat + n) (by omega)]; simp
  have h1 := key k.toNat (by omega) (by omega)
  have h2 := rest (128 - k.toNat)
  rw [show k.toNat + (128 - k.toNat) = 128 by omega] at h2
  rw [h.len, h2]; omega
end Go.Proofs.Ytfloemimimkgaaa
