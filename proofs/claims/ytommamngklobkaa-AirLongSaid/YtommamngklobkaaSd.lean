/- Send (contracts), and the burst that it lays. No conditions but those that each theorem names. -/
import Derived.Test.YtommamngklobkaaTh
import Derived.Deep.AppendLies
import Derived.Deep.RegionHeld3
namespace Go.Proofs.Ytommamngklobkaa
open Go.RowKit
set_option linter.unusedVariables false
/-- A slice of strings, wherever it lies. -/
def StrR (w : World) (v : Value) (fr : List ByteArray) : Prop :=
  ∃ g off cap, v = .slice (some ⟨g, off, none⟩) fr.length cap ∧ fr.length ≤ cap ∧ cap ≤ maxLen ∧ ∀ i (h : i < fr.length), w.cell? ⟨g, off + i, none⟩ = some (.string fr[i])
set_option maxHeartbeats 1000000 in
theorem burstOk32 {w : World} {v : Value} {fr : List ByteArray} (h : StrR w v fr) (hf : ∀ s ∈ fr, s.size ≤ 333) (h1 : 1 ≤ fr.length) (h7 : fr.length ≤ 7) (lead tail : Int) (hl : 0 ≤ lead ∧ lead ≤ 255) (ht : 0 ≤ tail ∧ tail ≤ 255) :
    Calls Try.prog 32 #[.int .i64 lead, .int .i64 tail, v] w fun e w' => e = .returned (.bool true) ∧ w = w' := by
  obtain ⟨g, off, cap, rfl, hcap, hmax, hc⟩ := h
  obtain ⟨l0, l1⟩ := hl
  obtain ⟨t0, t1⟩ := ht
  have HC := Lib.hid hc
  have HF := Lib.hid hf
  unfold maxLen at hmax
  obtain ⟨L, hL⟩ : ∃ L, L = fr.length := ⟨_, rfl⟩
  rw [← hL] at h1 h7 hcap
  have HL := Lib.hid hL
  rw [← hL]
  clear hc hf hL
  have hL1 : (1 : Int) ≤ (L : Int) := by omega
  have hL7 : (L : Int) ≤ 7 := by omega
  go_enter Try.func32, Try.ntmps32
  go_wp2
  go_loop [11] (fun i => ∃ k : Nat, k ≤ L ∧ i = .int .i64 k) (fun i => L - (intOf i).toNat)
  case atStart => exact ⟨0, Nat.zero_le _, rfl⟩
  case round =>
    obtain ⟨k, hk, rfl⟩ := hrel
    by_cases hlt : k < L
    · have hlt2 : k < fr.length := by have := HL.out; omega
      have hck := HC.out k hlt2
      have hs := HF.out _ (List.getElem_mem hlt2)
      generalize hx : fr[k] = x at *
      clear hx
      go_wp2
      go_round
      case rel => exact ⟨k + 1, by omega, by go_num⟩
      case measure => simp [intOf]; omega
    · obtain rfl : k = L := by omega
      go_wp2
      go_ret
      exact ⟨by simp, rfl⟩
theorem StrR.only {w w' : World} {v : Value} {fr : List ByteArray} (h : StrR w v fr) (ho : Only [] w w') : StrR w' v fr := by
  obtain ⟨g, off, cap, h1, h2, h3, h4⟩ := h
  exact ⟨g, off, cap, h1, h2, h3, fun i hi => (World.cell?_of_block (a := ⟨g, off + i, none⟩) (ho.block g (cell_lt (h4 i hi)) (by simp))).trans (h4 i hi)⟩
theorem i9 : (Try.prog.info? 9).map (fun i => (i.zero, i.size, i.bytes)) = some (some (.string { data := #[] }), 1, 16) := by kernel_rfl
/-- append([]string{}, frames...), as a step of a region that draws. -/
theorem step_append_strs {w : World} {ops : Array Oper} {o : Oper} {a : Act} {K : Act → World → Prop} {Q : Exit → Act → World → Prop} {E : Prop} (hgd : o.guard = none) (s x : Operand)
    (ho : o.op = .call { callee := .builtin .append, args := #[s, x], argTypes := #[50, 50] }) (h0 : Nat) (v : Value) (fr : List ByteArray) (hs : a.eval s = .slice (some ⟨h0, 0, none⟩) 0 0) (hb : w.heap[h0]? = some (.cells #[] 9 (0, 0)))
    (hx : a.eval x = v) (hv : StrR w v fr) (h1 : 1 ≤ fr.length) (h7 : fr.length ≤ 7)
    (h : ∀ g cap w', FrW w' (.slice (some ⟨g, 0, none⟩) fr.length cap) fr → Only [h0] w w' → K (a.put o.dst (.slice (some ⟨g, 0, none⟩) fr.length cap)) w') :
    if Region.wanted o (yielded ops a.tmps) = true then Oper.wp Try.prog o a w K Q else E := by
  obtain ⟨i0, hi, hz0, hz1, hz2⟩ := info_parts i9
  obtain ⟨g, off, cap, rfl, hcap, hmax, hc⟩ := hv
  have hh := heap_lt hb
  refine step_append_lies _ hgd s x 50 ho 0 9 i0 (.string { data := #[] }) 1 16 Try.underlying50 hi hz0 hz1 hz2 rfl (by decide) (.slice (some ⟨h0, 0, none⟩) 0 0) 0 [] hs
    ⟨rfl, Or.inr ⟨h0, 0, #[], rfl, Nat.zero_le _, hb, by simp, by simp, by simp, by simp⟩⟩ ⟨g, off, none⟩ fr.length cap (fr.map Value.string) hx (by simp) (fun j u hj => ?_) (fun u hu => ?_) (by omega) (by unfold maxLen; omega) (by omega) (Nat.zero_le _) w.heap.size rfl ?_
  · rw [List.getElem?_map] at hj
    have hjl : j < fr.length := by
      by_cases e : j < fr.length
      · exact e
      · rw [List.getElem?_eq_none (by omega)] at hj; cases hj
    rw [List.getElem?_eq_getElem hjl] at hj
    rw [Addr.add_lit, hc j hjl]
    simpa using hj
  · obtain ⟨s, _, rfl⟩ := List.mem_map.1 hu; rfl
  · intro g' cap' w' hown hgr _ _
    rw [Nat.zero_add] at hown ⊢
    refine h _ _ w' ?_ ((Only.refl [h0] w).grown hgr (fun k hk => by cases hk; simp))
    obtain ⟨_, ⟨_, h0'⟩ | ⟨g2, cap2, cur, hv2, _, hh2, r1, r2, r3, r4⟩⟩ := hown
    · omega
    · cases hv2
      refine ⟨_, _, rfl, r1, r2, fun _ => ⟨g', 0, rfl, ⟨cur, _, hh2⟩, fun i hi => ?_⟩⟩
      rw [Nat.zero_add, cell_of hh2]
      have e : (cur.toList.take (fr.length * 1))[i]? = ([] ++ fr.map Value.string)[i]? := by rw [r4]
      rw [List.getElem?_take_of_lt (by omega)] at e
      rw [← Array.getElem?_toList, e, List.nil_append, List.getElem?_map, List.getElem?_eq_getElem hi]
      rfl
def newBu (lead tail : Int) (fr : List ByteArray) : Bu := { lead := lead, tail := tail, fr := fr, done := 0, q := none, cf := fun _ => false }
def SendP (w : World) (d : Id) (S : List Int) (p : Int → Nat) (N : Nat) (B : Int → Bu) (x lead tail : Int) (fr : List ByteArray) (e : Ending) (w' : World) : Prop :=
  ∃ pb, e = .returned (.int .i64 0) ∧ AirW w' d (x :: S) (fun y => if y = x then pb else p y) (fun _ => N) (fun y => if y = x then newBu lead tail fr else B y) ∧ Fr d.K d.mo w w'
theorem AirW.sent {w1 w2 w4 : World} {d : Id} {S : List Int} {p : Int → Nat} {N : Nat} {B : Int → Bu} {x lead tail : Int} {v2 : Value} {fr : List ByteArray} (H : AirW w1 d S p (fun _ => N) B) (ho : Only [] w1 w2) (hf2 : FrW w2 v2 fr)
    (hon : OnM w4 d.mo (x :: S) (fun y => if y = x then w2.heap.size else p y)) (hgr : (w2.alloc (.cells #[.int .i64 lead, .int .i64 tail, v2, .int .i64 0, .map none] 79)).grownBy w4 (some d.mo)) (hx : 1 ≤ x ∧ x ≤ d.n) (hS : x ∉ S)
    (hl : 0 ≤ lead ∧ lead ≤ 255) (ht : 0 ≤ tail ∧ tail ≤ 255) (hf : ∀ s ∈ fr, s.size ≤ 333) (h7 : fr.length ≤ 7) :
    AirW w4 d (x :: S) (fun y => if y = x then w2.heap.size else p y) (fun _ => N) (fun y => if y = x then newBu lead tail fr else B y) ∧ Fr d.K d.mo w1 w4 := by
  have hn := heap_new w2 (.cells #[.int .i64 lead, .int .i64 tail, v2, .int .i64 0, .map none] 79)
  have oa : Only [] w2 (w2.alloc (.cells #[.int .i64 lead, .int .i64 tail, v2, .int .i64 0, .map none] 79)) := (Only.refl [] w2).alloc _
  have o4 : Only [d.mo] (w2.alloc (.cells #[.int .i64 lead, .int .i64 tail, v2, .int .i64 0, .map none] 79)) w4 := (Only.refl [d.mo] _).grown hgr (fun k hk => by cases hk; simp)
  have H2 := H.same ho
  have H3 := H2.same oa
  have lo := H2.st.lo
  have hmo : ∀ y ∈ [d.mo], NoStr (w2.alloc (.cells #[.int .i64 lead, .int .i64 tail, v2, .int .i64 0, .map none] 79)) y := fun y hy => by
    obtain ⟨es, c, hm⟩ := H3.on.isMap
    rw [show y = d.mo by simpa using hy]; exact NoStr.map hm
  have F14 : Fr d.K d.mo w1 w4 := ((Fr.of_only ho (by simp)).only oa (by simp)).only o4 (by simp)
  refine ⟨⟨H3.st.only o4 (by simp), hon, fun y hy => ?_, fun y hy => ?_, fun y hy => ?_, fun y hy => ?_, fun y hy z hz hne => ?_⟩, F14⟩
  · rcases List.mem_cons.1 hy with rfl | h
    · exact hx
    · exact H.sub y h
  · by_cases e : y = x
    · simp only [if_pos e]
      refine ⟨⟨v2, o4.heap hn (by simp; omega), (hf2.only oa (by simp)).only o4 hmo⟩, fun _ _ => rfl, fun q hq => by cases hq⟩
    · have hyS : y ∈ S := by rcases List.mem_cons.1 hy with h | h; exact absurd h e; exact h
      simp only [if_neg e]
      exact (H3.bu y hyS).only o4 hmo (by have := (H.K y hyS).1; simp; omega) (fun q hq => by have := (H.K y hyS).2 q hq; simp; omega)
  · by_cases e : y = x
    · simp only [if_pos e]
      exact ⟨hl, ht, by show (0 : Int) ≤ 0 ∧ (0 : Int) ≤ 20; omega, h7, hf⟩
    · have hyS : y ∈ S := by rcases List.mem_cons.1 hy with h | h; exact absurd h e; exact h
      simp only [if_neg e]
      exact H.ok y hyS
  · by_cases e : y = x
    · simp only [if_pos e]
      exact ⟨by omega, fun q hq => by cases hq⟩
    · have hyS : y ∈ S := by rcases List.mem_cons.1 hy with h | h; exact absurd h e; exact h
      simp only [if_neg e]
      exact H.K y hyS
  · by_cases ey : y = x
    · have ez : ¬ z = x := fun e => hne (by rw [ey, e])
      have hzS : z ∈ S := by rcases List.mem_cons.1 hz with h | h; exact absurd h ez; exact h
      simp only [if_pos ey, if_neg ez]
      exact ⟨by have := (H2.bu z hzS).lt; omega, fun q q' hq => by cases hq⟩
    · have hyS : y ∈ S := by rcases List.mem_cons.1 hy with h | h; exact absurd h ey; exact h
      by_cases ez : z = x
      · simp only [if_neg ey, if_pos ez]
        exact ⟨by have := (H2.bu y hyS).lt; omega, fun q q' _ hq => by cases hq⟩
      · have hzS : z ∈ S := by rcases List.mem_cons.1 hz with h | h; exact absurd h ez; exact h
        simp only [if_neg ey, if_neg ez]
        exact H.inj y hyS z hzS hne
set_option maxRecDepth 100000 in
set_option maxHeartbeats 4000000 in
theorem send15 {w : World} {d : Id} {S : List Int} {p : Int → Nat} {N : Nat} {B : Int → Bu} (h : AirW w d S p (fun _ => N) B) (x lead tail : Int) (hx : 1 ≤ x ∧ x ≤ d.n) (hS : x ∉ S) (hl : 0 ≤ lead ∧ lead ≤ 255) (ht : 0 ≤ tail ∧ tail ≤ 255)
    {v : Value} {fr : List ByteArray} (hv : StrR w v fr) (hf : ∀ s ∈ fr, s.size ≤ 333) (h1 : 1 ≤ fr.length) (h7 : fr.length ≤ 7) (hlen : S.length ≤ 1000) :
    Calls Try.prog 15 #[.pointer (some ⟨d.A, 0, none⟩), .int .i64 x, .int .i64 lead, .int .i64 tail, v] w (SendP w d S p N B x lead tail fr) := by
  have ho0 : Only [] w (w.alloc (.cells #[.int .i64 x] 3)) := (Only.refl [] w).alloc _
  have h1w := h.same ho0
  have n16 := h.st.n16
  have k31 := missing31 h1w.st w.heap.size x (nc0f w (.int .i64 x) 3) hx
  have k32 := burstOk32 (hv.only ho0) hf h1 h7 lead tail hl ht
  have k19 := on19 h1w.st h1w.on x (wf_small (by omega) (by omega))
  rw [decide_eq_false hS] at k19
  have c1 := h1w.st.c1
  have H := Lib.hid h1w
  have HV := Lib.hid (hv.only ho0)
  have O := Lib.hid ho0
  have HSS := Lib.hid hS
  have HF := Lib.hid hf
  clear h h1w hv ho0 hS hf
  go_enter Try.func15, Try.ntmps15
  go_wp2_with fail
  refine k31.mono ?_
  rintro e w1 ⟨rfl, rfl⟩
  go_wp2_with fail
  refine k32.mono ?_
  rintro e w1 ⟨rfl, rfl⟩
  go_wp2_with fail
  refine k19.mono ?_
  rintro e w1 ⟨rfl, rfl⟩
  clear k31 k32 k19
  generalize w.alloc (.cells #[.int .i64 x] 3) = w1 at *
  go_wp2_with fail
  have HVd : StrR (w1.alloc (.cells #[] 9)).drew v fr := HV.out.only ((Only.refl [] w1).alloc _).drew
  have onall : ∀ w2 : World, Only [w1.heap.size] (w1.alloc (.cells #[] 9)).drew w2 → Only [] w1 w2 := fun w2 ho => ((Only.refl [] w1).alloc (.cells #[] 9)).drew.trans_new ho (by simp)
  have ONA := Lib.hid onall
  clear onall
  go_region_held3 (fun w' => w'.cell? ⟨d.A, 1, none⟩ = some (.map (some d.mo)))
    (first | exact c1 | exact c2 | exact c4 | go_keep)
    ((refine step_append_strs (w := (w1.alloc (.cells #[] 9)).drew) (by rfl) _ _ (by rfl) w1.heap.size v fr (by rfl) (heap_new w1 _) (by rfl) HVd h1 h7 ?_; intro g2 cap2 w2 hf2 ho2; have c2 := (H.out.same (ONA.out w2 ho2)).st.c1; obtain ⟨w4, hput, hon4, hgr4⟩ := OnM.put (w := w2.alloc (.cells #[.int .i64 lead, .int .i64 tail, .slice (some ⟨g2, 0, none⟩) fr.length cap2, .int .i64 0, .map none] 79)) ((H.out.same ((ONA.out w2 ho2).alloc _)).on) (x := x) (by omega) (by omega) HSS.out hlen w2.heap.size; have R4 := Lib.hid (H.out.sent (ONA.out w2 ho2) hf2 hon4 hgr4 hx HSS.out hl ht HF.out h7); have c4 := R4.out.1.st.c1))
  clear hput hon4 hgr4 hf2 ho2 c1 c2 c4
  go_wp2
  go_ret
  exact ⟨_, rfl, R4.out.1, (Fr.of_only O.out (by simp)).trans R4.out.2⟩
set_option maxRecDepth 100000 in
set_option maxHeartbeats 2000000 in
theorem send15_busy {w : World} {d : Id} {S : List Int} {p N : Int → Nat} {B : Int → Bu} (h : AirW w d S p N B) (x lead tail : Int) (hS : x ∈ S) (hl : 0 ≤ lead ∧ lead ≤ 255) (ht : 0 ≤ tail ∧ tail ≤ 255)
    {v : Value} {fr : List ByteArray} (hv : StrR w v fr) (hf : ∀ s ∈ fr, s.size ≤ 333) (h1 : 1 ≤ fr.length) (h7 : fr.length ≤ 7) :
    Calls Try.prog 15 #[.pointer (some ⟨d.A, 0, none⟩), .int .i64 x, .int .i64 lead, .int .i64 tail, v] w fun e w' => e = .returned (.int .i64 10) ∧ Only [] w w' := by
  have ho0 : Only [] w (w.alloc (.cells #[.int .i64 x] 3)) := (Only.refl [] w).alloc _
  have h1w := h.same ho0
  have n16 := h.st.n16
  have hx := h.sub x hS
  have k31 := missing31 h1w.st w.heap.size x (nc0f w (.int .i64 x) 3) hx
  have k32 := burstOk32 (hv.only ho0) hf h1 h7 lead tail hl ht
  have k19 := on19 h1w.st h1w.on x (wf_small (by omega) (by omega))
  rw [decide_eq_true hS] at k19
  have O := Lib.hid ho0
  clear h h1w hv ho0 hS hf
  go_enter Try.func15, Try.ntmps15
  go_wp2_with fail
  refine k31.mono ?_
  rintro e w1 ⟨rfl, rfl⟩
  go_wp2_with fail
  refine k32.mono ?_
  rintro e w1 ⟨rfl, rfl⟩
  go_wp2_with fail
  refine k19.mono ?_
  rintro e w1 ⟨rfl, rfl⟩
  clear k31 k32 k19
  go_wp2
  go_ret
  exact ⟨rfl, O.out⟩
theorem left20 {w : World} {d : Id} {S : List Int} {p N : Int → Nat} {B : Int → Bu} (h : AirW w d S p N B) (x : Int) (hS : x ∈ S) :
    Calls Try.prog 20 #[.pointer (some ⟨d.A, 0, none⟩), .int .i64 x] w fun e w' => e = .returned (.int .i64 (leftI (B x))) ∧ Only [] w w' := by
  have n16 := h.st.n16
  have hx := h.sub x hS
  have k19 := on19 h.st h.on x (wf_small (by omega) (by omega))
  rw [decide_eq_true hS] at k19
  have k36 := left36 (h.bu x hS) (h.ok x hS)
  have lk := h.on.look_in (wf_small (by omega) (by omega)) hS
  have c1 := h.st.c1
  clear h hS
  go_enter Try.func20, Try.ntmps20
  go_wp2_with fail
  refine k19.mono ?_
  rintro e w1 ⟨rfl, rfl⟩
  go_wp2_with fail
  refine k36.mono ?_
  rintro e w1 ⟨rfl, ho⟩
  have O := Lib.hid ho
  clear ho k19 k36
  go_wp2
  go_ret
  exact ⟨rfl, O.out⟩
end Go.Proofs.Ytommamngklobkaa
