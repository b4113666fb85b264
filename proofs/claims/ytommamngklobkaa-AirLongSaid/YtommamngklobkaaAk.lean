/- The example of the air's laws, awake (contract): returns true. No conditions. -/
import Derived.Test.YtommamngklobkaaCw
import Derived.Test.YtommamngklobkaaTi
namespace Go.Proofs.Ytommamngklobkaa
open Go.RowKit
set_option linter.unusedVariables false
theorem Fr.to_only {w w1 w' : World} {d : Id} (h : Only [] w w1) (k : Fr d.K d.mo w1 w') (hm : w.heap.size ≤ d.mo) (hK : d.mo < d.K) : Only [] w w' :=
  ⟨k.os.trans h.os, k.tape.trans h.tape, k.output.trans h.output, Nat.le_trans h.size k.size, fun i hi _ => (k.block i (Nat.lt_of_lt_of_le hi h.size) (by omega) (by omega)).trans (h.block i hi (by simp))⟩
theorem StrR.one (w : World) (s : ByteArray) : StrR (w.alloc (.cells #[.string s] 9)) (.slice (some ⟨w.heap.size, 0, none⟩) 1 1) [s] := by
  refine ⟨w.heap.size, 0, 1, rfl, Nat.le_refl _, by unfold maxLen; omega, fun i hi => ?_⟩
  obtain rfl : i = 0 := by simp at hi; omega
  exact (cell_of (heap_new w (.cells #[.string s] 9)) 0).trans rfl
/-- A tick that is everybody's last. -/
def LastP (w : World) (d : Id) (S : List Int) (e : Ending) (w' : World) (gs : List G → Prop) : Prop :=
  ∃ v l, e = .returned v ∧ GotR w' w.heap.size v l ∧ gs l ∧ (∃ p N B, AirW w' d [] p N B) ∧ Fr d.K d.mo w w'
theorem tick_last {w : World} {d : Id} {S : List Int} {p : Int → Nat} {N : Nat} {B : Int → Bu} {f : Int → ByteArray} {t : Int} (h : AirW w d S p (fun _ => N) B) (hN : N ≤ 800000) (hc : Cr S d.n f t B) (ht0 : 0 ≤ t) (ht : t ≤ 15) (hl : ∀ x ∈ S, t + 1 = longI (f x)) :
    Calls Try.prog 17 #[.pointer (some ⟨d.A, 0, none⟩)] w fun e w' => ∃ v C, e = .returned v ∧ GotR w' w.heap.size v (outsK d.n S C d.n) ∧ Cr S d.n f (t + 1) C ∧ (∀ x ∈ S, outB d.n x (C x) = outL x (C x).cf (f x) d.n) ∧ AirW w' d [] p (fun _ => N + 2 * d.n) (fun x => stepped (C x)) ∧ Fr d.K d.mo w w' := by
  refine (tick17 h hN (fun x hx => by have := (hc x hx).2.2.2.1; omega) (hc.ready ht h.ok)).mono ?_
  rintro e w' ⟨v, C, he, hC, hg, ha, hf⟩
  have h1 := hc.tick ht0 hC
  have h2 := h1.last hl
  rw [h2.1] at ha
  exact ⟨v, C, he, hg, h1, h2.2, ha, hf⟩
def oneS (b : UInt8) : ByteArray := ⟨#[b]⟩
theorem longI_one (b : UInt8) : longI (oneS b) = 1 := by unfold longI; rw [show (oneS b).size = 1 from rfl]; decide
theorem Cr.start {S : List Int} {n : Nat} {f : Int → ByteArray} {B : Int → Bu} (h : ∀ x ∈ S, B x = newBu 0 0 [f x]) : Cr S n f 0 B := by
  intro x hx
  rw [h x hx]
  exact ⟨rfl, rfl, rfl, rfl, fun h => absurd h (by omega)⟩
set_option maxRecDepth 100000 in
set_option maxHeartbeats 4000000 in
theorem awake15 (w : World) : Calls Try.prog 13 #[] w fun e w' => e = .returned (.bool true) ∧ Only [] w w' := by
  go_enter Try.func13, Try.ntmps13
  go_wp2_with fail
  refine (fresh14 2 _ (by omega) (by omega)).mono ?_
  rintro e w1 ⟨d, v2, v3, rfl, hd, hA, ho, hmo⟩
  have a0 := hA (fun _ => 0) (fun _ => 0) (fun _ => newBu 0 0 [])
  have o1 : Only [] w1 (w1.alloc (.cells #[.string (oneS 120)] 9)) := (Only.refl [] w1).alloc _
  have k1 := send15 (a0.same o1) 1 0 0 (by omega) (by simp) (by omega) (by omega) (StrR.one w1 (oneS 120)) (by simp; decide) (by simp) (by simp) (by simp)
  have loK := a0.st.lo
  have D := Lib.hid hd
  have O1 := Lib.hid ho
  have M1 := Lib.hid hmo
  have KK : d.mo < d.K := by omega
  have A0 := Lib.hid a0
  clear hA ho hmo a0 o1 loK hd
  go_wp2_with fail
  refine k1.mono ?_
  rintro e w2 ⟨pb1, rfl, h2, f2⟩
  have o2 : Only [] w2 (w2.alloc (.cells #[.string (oneS 121)] 9)) := (Only.refl [] w2).alloc _
  have k2 := send15 (h2.same o2) 2 0 0 (by have := D.out; omega) (by simp) (by omega) (by omega) (StrR.one w2 (oneS 121)) (by simp; decide) (by simp) (by simp) (by simp)
  have F2 := Lib.hid ((Fr.of_only (K := d.K) (mo := d.mo) ((Only.refl [] w1).alloc (.cells #[.string (oneS 120)] 9)) (by simp)).trans f2)
  clear k1 h2 f2 o2
  go_wp2_with fail
  refine k2.mono ?_
  rintro e w3 ⟨pb2, rfl, h3, f3⟩
  have F3 := Lib.hid ((F2.out.trans (Fr.of_only (K := d.K) (mo := d.mo) ((Only.refl [] w2).alloc (.cells #[.string (oneS 121)] 9)) (by simp))).trans f3)
  have k3 := tick_last h3 (by omega) (f := fun y => if y = 2 then oneS 121 else oneS 120) (t := 0) (Cr.start (fun x hx => by
    rcases List.mem_cons.1 hx with rfl | hx
    · simp
    · obtain rfl : x = 1 := by simpa using hx
      simp)) (by omega) (by omega) (fun x hx => by
    rcases List.mem_cons.1 hx with rfl | hx
    · simp [longI_one]
    · obtain rfl : x = 1 := by simpa using hx
      simp [longI_one])
  have H3 := Lib.hid h3
  clear k2 f3 h3
  go_wp2_with fail
  refine k3.mono ?_
  rintro e w4 ⟨v4, C4, rfl, hg4, hc4, hl4, h4, f4⟩
  have cnt := hc4.count (by omega) (fun x hx => by
    rcases List.mem_cons.1 hx with rfl | hx
    · simp [longI_one]
    · obtain rfl : x = 1 := by simpa using hx
      simp [longI_one]) H3.out.on.nodup H3.out.sub
  rw [if_neg (by simp)] at cnt
  have hnil : outsK d.n [2, 1] C4 d.n = [] := List.eq_nil_of_length_eq_zero (by omega)
  rw [hnil] at hg4
  have F4 := Lib.hid (F3.out.trans f4)
  have o5 : Only [] w4 (w4.alloc (.cells #[.string (oneS 122)] 9)) := (Only.refl [] w4).alloc _
  have k5 := send15 (h4.same o5) 1 0 0 (by have := D.out; omega) (by simp) (by omega) (by omega) (StrR.one w4 (oneS 122)) (by simp; decide) (by simp) (by simp) (by simp)
  have len4 : ∃ a4 c4, v4 = .slice a4 0 c4 := by
    rcases hg4.shape with ⟨rfl, _⟩ | ⟨g, cap, rfl, _⟩
    · exact ⟨_, _, rfl⟩
    · exact ⟨_, _, rfl⟩
  obtain ⟨a4, c4, rfl⟩ := len4
  clear k3 hg4 hc4 hl4 h4 f4 cnt hnil o5 H3
  go_wp2_with fail
  refine k5.mono ?_
  rintro e w5 ⟨pb5, rfl, h5, f5⟩
  have F5 := Lib.hid ((F4.out.trans (Fr.of_only (K := d.K) (mo := d.mo) ((Only.refl [] w4).alloc (.cells #[.string (oneS 122)] 9)) (by simp))).trans f5)
  have k6 := tick_last h5 (by have := D.out; omega) (f := fun y => oneS 122) (t := 0) (Cr.start (fun x hx => by
    obtain rfl : x = 1 := by simpa using hx
    simp)) (by omega) (by omega) (fun x hx => by simp [longI_one])
  clear k5 f5 h5
  go_wp2_with fail
  refine k6.mono ?_
  rintro e w6 ⟨v6, C6, rfl, hg6, hc6, hl6, h6, f6⟩
  have hone : outsK d.n [1] C6 d.n = [⟨1, 2, oneS 122⟩] := by
    have h5 := (hc6 1 (by simp)).2.2.2.2 (by omega)
    have e1 := h5 1 (by omega) (by have := D.out; omega)
    have e2 := h5 2 (by omega) (by have := D.out; omega)
    rw [okB_one] at e1 e2
    rw [outsK_one (by omega), if_pos (by have := D.out; omega), hl6 1 (by simp), D.out]
    simp [outL, e1, e2]
  rw [hone] at hg6
  have F6 := Lib.hid (F5.out.trans f6)
  have k18 := quiet18 h6.st h6.on
  obtain ⟨g6, cap6, rfl, _, _, hcap6, _, hc⟩ : ∃ g cap, v6 = .slice (some ⟨g, 0, none⟩) 1 cap ∧ w5.heap.size ≤ g ∧ (∃ cur, w6.heap[g]? = some (.cells cur 48 (0, 0))) ∧ 1 ≤ cap ∧ cap ≤ maxLen ∧ ∀ j u, ([(⟨1, 2, oneS 122⟩ : G)].flatMap G.cells)[j]? = some u → w6.cell? ((⟨g, 0, none⟩ : Addr).add j) = some u := by
    rcases hg6.shape with ⟨_, h0⟩ | h
    · cases h0
    · exact h
  have q0 : w6.cell? ⟨g6, 0, none⟩ = some (.int .i64 1) := hc 0 _ rfl
  have q1 : w6.cell? ⟨g6, 1, none⟩ = some (.int .i64 2) := hc 1 _ rfl
  have q2 : w6.cell? ⟨g6, 2, none⟩ = some (.string { data := #[122] }) := hc 2 _ rfl
  have q3 : w6.cell? ⟨g6, 3, none⟩ = some (.bool false) := hc 3 _ rfl
  clear k6 hg6 hc6 hl6 h6 f6 hone hc
  go_wp2_with fail
  refine k18.mono ?_
  rintro e w7 ⟨rfl, rfl⟩
  clear k18
  go_wp2
  go_ret
  exact ⟨rfl, Fr.to_only O1.out F6.out M1.out KK⟩
end Go.Proofs.Ytommamngklobkaa
