/- What comes by a tick of a burst: step (contract). No conditions but those that each theorem names. -/
import Derived.Test.YtommamngklobkaaCo
import Derived.Laws.AppendOwn
import Derived.OwnWalk
namespace Go.Proofs.Ytommamngklobkaa
open Go.RowKit
set_option linter.unusedVariables false
/-- A frame that comes: from whom, to whom, what. -/
structure G where
  f : Int
  t : Int
  s : ByteArray
def G.cells (g : G) : List Value := [.int .i64 g.f, .int .i64 g.t, .string g.s, .bool false]
def GotR (w : World) (base : Nat) (v : Value) (gs : List G) : Prop := w.ownsRow base 48 4 v gs.length (gs.flatMap G.cells)
theorem GotR.nil (w : World) (base : Nat) : GotR w base (.slice none 0 0) [] := ⟨rfl, Or.inl ⟨rfl, rfl⟩⟩
theorem GotR.own {w : World} {base : Nat} {v : Value} {gs : List G} (h : GotR w base v gs) (k : Nat) (hk : v.ownBlock = some k) : base ≤ k := by
  obtain ⟨_, ⟨rfl, _⟩ | ⟨g, cap, cur, rfl, hg, _⟩⟩ := h
  · cases hk
  · cases hk; exact hg
theorem GotR.only {w w' : World} {base : Nat} {v : Value} {gs : List G} {L : List Nat} (h : GotR w base v gs) (ho : Only L w w') (hL : ∀ x ∈ L, x < base) : GotR w' base v gs := by
  obtain ⟨h1, h2⟩ := h
  refine ⟨h1, ?_⟩
  rcases h2 with h0 | ⟨g, cap, cur, hv, hg, hh, r⟩
  · exact Or.inl h0
  · exact Or.inr ⟨g, cap, cur, hv, hg, ho.heap hh (fun hx => by have := hL g hx; omega), r⟩
theorem GotR.drewN {w : World} {base : Nat} {v : Value} {gs : List G} (h : GotR w base v gs) (n : Nat) : GotR (w.drewN n) base v gs := h
theorem i48 : (Try.prog.info? 48).map (fun i => (i.zero, i.size, i.bytes)) = some (some (.agg #[.int .i64 0, .int .i64 0, .string { data := #[] }, .bool false]), 4, 40) := by kernel_rfl
theorem wpList_append_got {w0 : World} {ops : Array Oper} {rest : List Oper} {o : Oper} {a : Act} {Q : Exit → Act → World → Prop} (hgd : o.guard = none) (s x : Operand)
    (ho : o.op = .call { callee := .builtin .append, args := #[s, x], argTypes := #[45, 45] }) (base : Nat) (v : Value) (gs : List G) (y : G) (hs : a.eval s = v) (hown : GotR w0 base v gs)
    (hx : a.eval x = .slice (some ⟨w0.heap.size, 0, none⟩) 1 1) (hlen : gs.length ≤ 10000) (hbase : base ≤ w0.heap.size)
    (h : ∀ v' w', GotR w' base v' (gs ++ [y]) → (w0.alloc (.cells #[.int .i64 y.f, .int .i64 y.t, .string y.s, .bool false] 48)).grownBy w' v.ownBlock → wpList Try.prog ops Q rest (a.put o.dst v') w') :
    wpList Try.prog ops Q (o :: rest) a (w0.alloc (.cells #[.int .i64 y.f, .int .i64 y.t, .string y.s, .bool false] 48)) := by
  obtain ⟨i0, hi, hz0, hz1, hz2⟩ := info_parts i48
  refine wpList_append_own _ hgd s x 45 ho base 48 i0 _ 4 40 Try.underlying45 hi hz0 hz1 hz2 rfl (by decide) v gs.length _ hs (World.ownsRow.alloc hown _) ⟨w0.heap.size, 0, none⟩ 1 1 y.cells hx rfl ?_ ?_ (by unfold maxLen; omega) (by omega) (by simp; omega) ?_
  · intro j u hu
    have hh := heap_new w0 (.cells #[.int .i64 y.f, .int .i64 y.t, .string y.s, .bool false] 48)
    rw [show (⟨w0.heap.size, 0, none⟩ : Addr).add j = ⟨w0.heap.size, 0 + j, none⟩ from Addr.add_lit _ _ _, cell_of hh]
    unfold G.cells at hu
    rw [Nat.zero_add, ← hu]
    simp
  · intro u hu
    simp [G.cells] at hu
    rcases hu with rfl | rfl | rfl | rfl <;> rfl
  · intro v' w' h1 h2 _
    refine h v' w' ?_ h2
    unfold GotR
    simpa [List.flatMap_append] using h1
/-- What comes to the first k stations. -/
def outL (i : Int) (cf : Int → Bool) (s : ByteArray) : Nat → List G
  | 0 => []
  | k + 1 => if cf ((k : Int) + 1) = true then outL i cf s k ++ [⟨i, (k : Int) + 1, s⟩] else outL i cf s k
theorem outL_len (i : Int) (cf : Int → Bool) (s : ByteArray) (k : Nat) : (outL i cf s k).length ≤ k := by
  induction k with
  | zero => simp [outL]
  | succ k ih =>
    simp only [outL]
    split
    · rw [List.length_append, List.length_singleton]; omega
    · omega
set_option maxHeartbeats 1000000 in
theorem step_wait {w : World} (A : Nat) (i : Int) (pb N : Nat) (B : Bu) (hb : BuW w pb N B) (hok : BuOk B) (s : ByteArray) (r : List ByteArray) (hfr : B.fr = s :: r) (hd : B.done < longI s) :
    Calls Try.prog 35 #[.pointer (some ⟨A, 0, none⟩), .int .i64 i, .pointer (some ⟨pb, 0, none⟩)] w fun e w' => e = .returned (.slice none 0 0) ∧ Only [] w w' := by
  obtain ⟨v, ⟨a, cap, rfl, hcap, hmax, hrow⟩, hblk, _, _, c2, c3, _⟩ := hb.cells
  have hs : s.size ≤ 333 := hok.fr s (by rw [hfr]; simp)
  have k16 := fun w => long16 s w (by unfold maxLen; omega)
  obtain ⟨g, off, rfl, hty, hc⟩ := hrow (by rw [hfr]; simp)
  have hc0 := hc 0 (by rw [hfr]; simp)
  simp only [hfr, List.getElem_cons_zero, Nat.add_zero] at hc0
  have hL : 0 < B.fr.length := by rw [hfr]; simp
  have o4 := hok.len
  have hL0 : ((B.fr.length : Int) == 0) = false := by simp; intro e; rw [e] at hL; simp at hL
  have hLi : (0 : Int) < (B.fr.length : Int) := by omega
  have hd2 : decide (B.done < longI s) = true := by simpa using hd
  unfold maxLen at hmax
  clear hrow hc hok hb hblk hfr hs hd
  generalize B.fr.length = L at *
  go_enter Try.func35, Try.ntmps35
  go_wp2
  go_quiet ((go_at_call 16; exact Calls.quiet_of_same ((k16 _).mono (fun _ _ h => ⟨h.1, h.2.symm⟩))))
  go_wp2
  go_ret
  exact ⟨rfl, (Only.refl [] w).drewN _⟩
def sentBu (r : List ByteArray) (B : Bu) : Bu := { B with fr := r, done := 0 }
def SentP (w : World) (pb N : Nat) (B : Bu) (gs : List G) (r : List ByteArray) (e : Ending) (w' : World) : Prop :=
  ∃ v, e = .returned v ∧ GotR w' w.heap.size v gs ∧ BuW w' pb N (sentBu r B) ∧ Only [pb] w w'
theorem FrW.tail {w : World} {g off cap : Nat} {s : ByteArray} {r : List ByteArray} (hty : ∃ cur fz, w.heap[g]? = some (.cells cur 9 fz)) (hcap : r.length + 1 ≤ cap) (hmax : cap ≤ maxLen) (hc : ∀ i (h : i < (s :: r).length), w.cell? ⟨g, off + i, none⟩ = some (.string (s :: r)[i])) (h1 : ¬ cap = 1) :
    FrW w (.slice (some ⟨g, off + 1, none⟩) r.length (cap - 1)) r := by
  refine ⟨_, _, rfl, by omega, by omega, fun _ => ⟨g, off + 1, rfl, hty, fun i hi => ?_⟩⟩
  have := hc (i + 1) (by simp; omega)
  rw [show off + (i + 1) = off + 1 + i by omega] at this
  simpa using this
theorem sent_done {w wr : World} {pb N q : Nat} {B : Bu} {s : ByteArray} {r : List ByteArray} {v0 v1 : Value} (hb : BuW w pb N B) (hfr : B.fr = s :: r) (hq : B.q = some q) (hbl : wr.heap[pb]? = some (.cells (bcells B v0) 79 (0, 0))) (hf : FrW w v1 r) (ho : Only [] w wr) :
    BuW ((wr.setCell ⟨pb, 2, none⟩ v1).setCell ⟨pb, 3, none⟩ (.int .i64 0)) pb N (sentBu r B) ∧ Only [pb] w ((wr.setCell ⟨pb, 2, none⟩ v1).setCell ⟨pb, 3, none⟩ (.int .i64 0)) := by
  have o : Only [pb] w ((wr.setCell ⟨pb, 2, none⟩ v1).setCell ⟨pb, 3, none⟩ (.int .i64 0)) := ((ho.mono (by simp)).setCell (by simp) _).setCell (by simp) _
  have hpq : q ≠ pb := by
    obtain ⟨es, c, hm⟩ := (hb.cl1 q hq).isMap
    obtain ⟨v, h1, _⟩ := hb.blk
    intro e; subst e; rw [hm] at h1; cases h1
  refine ⟨⟨⟨v1, heap_set (heap_set hbl 2 v1) 3 _, hf.only o ?_⟩, ?_, ?_⟩, o⟩
  · intro x hx
    obtain rfl : x = pb := by simpa using hx
    exact hb.nostr
  · intro e; rw [show (sentBu r B).q = B.q from rfl, hq] at e; cases e
  · intro q' e
    rw [show (sentBu r B).q = B.q from rfl, hq] at e
    cases e
    exact (hb.cl1 q hq).only o (by simpa using hpq)
set_option maxRecDepth 100000 in
set_option maxHeartbeats 2000000 in
theorem step_send {w : World} {d : Id} (h : AirS w d) (i : Int) (pb N q : Nat) (B : Bu) (hb : BuW w pb N B) (hq : B.q = some q) (hok : BuOk B) (hK : d.K ≤ pb) (s : ByteArray) (r : List ByteArray) (hfr : B.fr = s :: r) (hd : ¬ B.done < longI s) :
    Calls Try.prog 35 #[.pointer (some ⟨d.A, 0, none⟩), .int .i64 i, .pointer (some ⟨pb, 0, none⟩)] w (SentP w pb N B (outL i B.cf s d.n) r) := by
  obtain ⟨v, ⟨a, cap, rfl, hcap, hmax, hrow⟩, hblk, _, _, c2, c3, c4⟩ := hb.cells
  have hs : s.size ≤ 333 := hok.fr s (by rw [hfr]; simp)
  have k16 := fun w => long16 s w (by unfold maxLen; omega)
  obtain ⟨g, off, rfl, hty, hc⟩ := hrow (by rw [hfr]; simp)
  have hc0 := hc 0 (by rw [hfr]; simp)
  simp only [hfr, List.getElem_cons_zero, Nat.add_zero] at hc0
  have hL : B.fr.length = r.length + 1 := by rw [hfr]; simp
  have hr7 : r.length ≤ 6 := by have := hok.len; omega
  have hL0 : (((B.fr.length : Nat) : Int) == 0) = false := by simp; rw [hfr]; simp
  have hLi : (0 : Int) < (B.fr.length : Int) := by omega
  have hd2 : decide (B.done < longI s) = false := by simpa using hd
  have hbo := hb.cl1 q hq
  have hn16 := h.n16
  rw [hq] at c4
  have H := Lib.hid h
  have HB := Lib.hid hb
  have HBO := Lib.hid hbo
  have HBL := Lib.hid hblk
  have HQ := Lib.hid hq
  have HFR := Lib.hid hfr
  have hc' : ∀ i (h : i < (s :: r).length), w.cell? ⟨g, off + i, none⟩ = some (.string (s :: r)[i]) := fun i h => by
    have := hc i (by rw [hfr]; exact h)
    simpa only [hfr] using this
  have HC := Lib.hid hc'
  clear hc'
  have hcg := cell_lt hc0
  unfold maxLen at hmax
  have HTY := Lib.hid hty
  clear hty
  clear hrow hc hok hb hblk hfr hs hd hbo hq h
  have HL := Lib.hid hL
  clear hL
  generalize B.fr.length = L at *
  go_enter Try.func35, Try.ntmps35
  go_wp2
  go_quiet ((go_at_call 16; exact Calls.quiet_of_same ((k16 _).mono (fun _ _ h => ⟨h.1, h.2.symm⟩))))
  have O1 : Only [] w (w.drewN nq) := (Only.refl [] w).drewN nq
  clear c3 hd2 hL0
  generalize w.drewN nq = w1 at *
  go_wp2
  go_loopw [7, 8] (fun v j wr => ∃ k : Nat, k ≤ d.n ∧ j = .int .i64 ((k : Int) + 1) ∧ GotR wr w.heap.size v (outL i B.cf s k) ∧ Only [] w wr) (fun _ j _ => d.n + 1 - (intOf j).toNat)
  case atStart => exact ⟨0, by omega, rfl, GotR.nil _ _, O1⟩
  case round =>
    clear O1
    obtain ⟨k, hk, rfl, hg, ho⟩ := hrel
    have hair := H.out.only ho (by simp)
    have c0 := hair.c0
    have klen := alen34 hair
    have b2 := (World.cell?_of_block (a := ⟨pb, 2, none⟩) (ho.block pb HB.out.lt (by simp))).trans c2
    have hcr := (World.cell?_of_block (a := ⟨g, off, none⟩) (ho.block g hcg (by simp))).trans hc0
    by_cases hlt : k < d.n
    · have hkn : (k : Int) + 1 ≤ (d.n : Int) := by omega
      have b4 := (World.cell?_of_block (a := ⟨pb, 4, none⟩) (ho.block pb HB.out.lt (by simp))).trans c4
      have lk := (HBO.out.only ho (by simp)).look (wf_small (x := (k : Int) + 1) (by omega) (by omega))
      have hbase := ho.size
      have hol := outL_len i B.cf s k
      cases hcf : B.cf ((k : Int) + 1)
      · rw [hcf] at lk
        have e : outL i B.cf s (k + 1) = outL i B.cf s k := by simp [outL, hcf]
        have E := Lib.hid e
        have GG := Lib.hid hg
        have O := Lib.hid ho
        clear hcf e hg ho hair
        go_wp2_with fail
        refine klen.mono ?_
        rintro e w2 ⟨rfl, rfl⟩
        go_wp2
        go_roundw
        case rel => exact ⟨k + 1, by omega, by go_num, by rw [E.out]; exact GG.out, O.out⟩
        case measure => simp [intOf]; omega
      · rw [hcf] at lk
        have e : outL i B.cf s (k + 1) = outL i B.cf s k ++ [⟨i, (k : Int) + 1, s⟩] := by simp [outL, hcf]
        have E := Lib.hid e
        have k42 := come42 hair i ((k : Int) + 1) s
        have O := Lib.hid ho
        clear hcf e ho hair
        go_wp2_with fail
        refine klen.mono ?_
        rintro e w2 ⟨rfl, rfl⟩
        go_wp2_with fail
        refine k42.mono ?_
        rintro e w3 ⟨rfl, ho3⟩
        have O3 := Lib.hid (O.out.trans ho3)
        have hg3 := hg.only ho3 (by simp)
        have hz3 := ho3.size
        clear hg k42 klen lk b4 b2 hcr c0 ho3
        have hg4 : GotR (w3.alloc (.cells #[.int .i64 i, .int .i64 ((k : Int) + 1), .string s, .bool false] 48)) w.heap.size u7 (outL i B.cf s k) := hg3.only ((Only.refl [] w3).alloc _) (by simp)
        have hbs : w.heap.size ≤ (w3.alloc (.cells #[.int .i64 i, .int .i64 ((k : Int) + 1), .string s, .bool false] 48)).heap.size := by simp; omega
        clear hg3
        go_wp2_with (at_builtin; refine wpList_append_got (w0 := w3.alloc (.cells #[.int .i64 i, .int .i64 ((k : Int) + 1), .string s, .bool false] 48)) rfl _ _ rfl w.heap.size u7 (outL i B.cf s k) ⟨i, (k : Int) + 1, s⟩ rfl hg4 (by rw [World.size_alloc]; rfl) (by omega) hbs ?_; intro v' w5 hg5 hgr5)
        have O5 : Only [] w w5 := ((O3.out.alloc _).alloc _).grown hgr5 (fun x hx => Or.inr (hg4.own x hx))
        have OH := Lib.hid O5
        have GH := Lib.hid hg5
        clear O5 hg5 hgr5 hg4 hbs
        go_wp2
        go_roundw
        case rel => exact ⟨k + 1, by omega, by go_num, by rw [E.out]; exact GH.out, OH.out⟩
        case measure => simp [intOf]; omega
    · obtain rfl : k = d.n := by omega
      have hkn : ¬ ((d.n : Int) + 1 ≤ (d.n : Int)) := by omega
      have GG := Lib.hid hg
      have O := Lib.hid ho
      have hbl := ho.heap HBL.out (by simp)
      have BL := Lib.hid hbl
      have f2 := free_of hbl 2
      have f3 := free_of hbl 3
      have b3 := (cell_of hbl 3).trans (show _ = some (.int .i64 B.done) from rfl)
      have hL1 : (1 : Int) ≤ (L : Int) := by omega
      have hL2 : (L : Int) ≤ (cap : Int) := by omega
      clear hg ho hair hbl
      by_cases hc1 : cap = 1
      · have hf : FrW w (.slice (some ⟨g, off, none⟩) (L - 1) 0) r := by
          have := HL.out
          refine ⟨_, _, by rw [show L - 1 = r.length by omega], by omega, by unfold maxLen; omega, fun hne => ?_⟩
          exact absurd (List.eq_nil_of_length_eq_zero (by omega)) hne
        have HF := Lib.hid hf
        clear hf
        go_wp2_with fail
        refine klen.mono ?_
        rintro e w2 ⟨rfl, rfl⟩
        go_wp2
        go_ret
        have hd := sent_done HB.out HFR.out HQ.out BL.out HF.out O.out
        exact ⟨_, rfl, GG.out.only ((Only.refl [pb] _).setCell (by simp) _ |>.setCell (by simp) _) (by simp; exact HB.out.lt), hd⟩
      · have hf : FrW w (.slice (some ⟨g, off + 1, none⟩) (L - 1) (cap - 1)) r := by
          have := HL.out
          rw [show L - 1 = r.length by omega]
          exact FrW.tail HTY.out (by omega) (by unfold maxLen; omega) HC.out hc1
        have HF := Lib.hid hf
        clear hf
        go_wp2_with fail
        refine klen.mono ?_
        rintro e w2 ⟨rfl, rfl⟩
        go_wp2
        go_ret
        have hd := sent_done HB.out HFR.out HQ.out BL.out HF.out O.out
        exact ⟨_, rfl, GG.out.only ((Only.refl [pb] _).setCell (by simp) _ |>.setCell (by simp) _) (by simp; exact HB.out.lt), hd⟩
end Go.Proofs.Ytommamngklobkaa
