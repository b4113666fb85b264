/- The taker of package seq: Take: what it returns and leaves (contracts). No conditions but those that each theorem names. -/
import Derived.Test.YtfloemimimkgaaaIn
import Derived.Deep.RegionHeld3
import Derived.Deep.LoopGhost
import Derived.StillTailTactics
namespace Go.Proofs.Ytfloemimimkgaaa
open Go.RowKit Go.Maps

/-- An int slice of the call's own: nil, or the head of a row from block 'base' on. -/
def RowI (w : World) (base : Nat) (v : Value) (xs : List Int) : Prop := w.ownsRow base 3 1 v xs.length (xs.map (Value.int .i64))
theorem RowI.nil (w : World) (base : Nat) : RowI w base (.slice none 0 0) [] := ⟨rfl, Or.inl ⟨rfl, rfl⟩⟩
theorem RowI.only {w w' : World} {base : Nat} {v : Value} {xs : List Int} {L : List Nat} (h : RowI w base v xs) (ho : Only L w w') (hL : ∀ x ∈ L, x < base) : RowI w' base v xs := by
  obtain ⟨h1, h2⟩ := h
  refine ⟨h1, ?_⟩
  rcases h2 with h2 | ⟨g, cap, cur, hv, hg, hh, r⟩
  · exact Or.inl h2
  · exact Or.inr ⟨g, cap, cur, hv, hg, ho.heap hh (fun hx => by have := hL g hx; omega), r⟩
theorem RowI.own {w : World} {base : Nat} {v : Value} {xs : List Int} (h : RowI w base v xs) (k : Nat) (hk : v.ownBlock = some k) : base ≤ k := by
  rcases h.2 with ⟨rfl, _⟩ | ⟨g, cap, cur, rfl, hg, _⟩
  · cases hk
  · cases hk; exact hg
theorem InW.grown {w w' : World} {b bm : Nat} {m k vr : Int} {S : List Int} {r : Option Nat} (h : InW w b bm m k vr S) (hg : w.grownBy w' r) (base : Nat) (hr : ∀ k, r = some k → base ≤ k) (hb : b < base) (hm : bm < base) : InW w' b bm m k vr S := by
  cases r with
  | none => exact h.only ((Only.refl [] w).grown hg (fun k hk => by cases hk)) (by simp) (by simp)
  | some g => have := hr g rfl; exact h.only ((Only.refl [g] w).grown hg (fun k hk => by cases hk; simp)) (by simp; omega) (by simp; omega)
theorem RowI.drewN {w : World} {base : Nat} {v : Value} {xs : List Int} (h : RowI w base v xs) (n : Nat) : RowI (w.drewN n) base v xs := h
theorem RowI.shape {w : World} {base : Nat} {v : Value} {xs : List Int} (h : RowI w base v xs) :
    (v = .slice none 0 0 ∧ xs = []) ∨ ∃ g cap cur, v = .slice (some ⟨g, 0, none⟩) xs.length cap ∧ base ≤ g ∧ w.heap[g]? = some (.cells cur 3 (0, 0)) ∧ xs.length ≤ cap ∧ cap ≤ maxLen ∧ ∀ i, i < xs.length → cur[i]? = some (.int .i64 (xs.getD i 0)) := by
  obtain ⟨h1, h2⟩ := h
  rcases h2 with ⟨rfl, h0⟩ | ⟨g, cap, cur, hv, hg, hh, h3, h4, h5, h6⟩
  · exact Or.inl ⟨rfl, List.eq_nil_of_length_eq_zero h0⟩
  · refine Or.inr ⟨g, cap, cur, hv, hg, hh, h3, h4, fun i hi => ?_⟩
    have e : (cur.toList.take (xs.length * 1))[i]? = (xs.map (Value.int .i64))[i]? := by rw [h6]
    rw [List.getElem?_take_of_lt (by omega)] at e
    rw [← Array.getElem?_toList, e, List.getElem?_map, List.getElem?_eq_getElem hi]
    simp [List.getD_eq_getElem?_getD, List.getElem?_eq_getElem hi]

theorem i3 : (Try.prog.info? 3).map (fun i => (i.zero, i.size, i.bytes)) = some (some (.int .i64 0), 1, 8) := by kernel_rfl
theorem wpList_append_row {w0 : World} {ops : Array Oper} {rest : List Oper} {o : Oper} {a : Act} {Q : Exit → Act → World → Prop} (hgd : o.guard = none) (s x : Operand)
    (ho : o.op = .call { callee := .builtin .append, args := #[s, x], argTypes := #[22, 22] }) (base : Nat) (v : Value) (xs : List Int) (y : Int) (hs : a.eval s = v) (hown : RowI w0 base v xs)
    (hx : a.eval x = .slice (some ⟨w0.heap.size, 0, none⟩) 1 1) (hlen : xs.length ≤ 10000) (hbase : base ≤ w0.heap.size)
    (h : ∀ v' w', RowI w' base v' (xs ++ [y]) → (w0.alloc (.cells #[.int .i64 y] 3)).grownBy w' v.ownBlock → wpList Try.prog ops Q rest (a.put o.dst v') w') :
    wpList Try.prog ops Q (o :: rest) a (w0.alloc (.cells #[.int .i64 y] 3)) := by
  obtain ⟨i0, hi, hz0, hz1, hz2⟩ := info_parts i3
  refine wpList_append_own _ hgd s x 22 ho base 3 i0 (.int .i64 0) 1 8 Try.underlying22 hi hz0 hz1 hz2 rfl (by decide) v xs.length _ hs (hown.alloc _) ⟨w0.heap.size, 0, none⟩ 1 1 [.int .i64 y] hx rfl (cell_one_new _ _ _) (ints_oneCell .i64 [y]) (by unfold maxLen; omega) (by omega) (by simp; omega) ?_
  intro v' w' h1 h2 _
  refine h v' w' ?_ h2
  unfold RowI
  simpa using h1

theorem wpList_put_set {w : World} {ops : Array Oper} {rest : List Oper} {o : Oper} {a : Act} {Q : Exit → Act → World → Prop} (hg : o.guard = none) (m x v : Operand) (hop : o.op = Op.mapUpdate 77 m x v) (b : Nat) (S : List Int)
    (hm : a.eval m = .map (some b)) (h : SetM w b S) (y : Int) (hx : a.eval x = .int .i64 y) (hv : a.eval v = .bool true) (h0 : 0 ≤ y) (h1 : y < 1000) (hS : y ∉ S) (hlen : S.length ≤ 1000)
    (hK : ∀ w', SetM w' b (y :: S) → w.grownBy w' (some b) → wpList Try.prog ops Q rest (a.put o.dst undef) w') : wpList Try.prog ops Q (o :: rest) a w := by
  refine wpList_plain hg fun K' hK' => ?_
  obtain ⟨w', hrun, r1, r2⟩ := h.put h0 h1 hS hlen
  unfold Oper.wp
  simp [execOp, hop, hm, hx, hv, hrun, Result.andThen]
  exact hK' _ _ (hK w' r1 r2)
theorem wpList_del_set {w : World} {ops : Array Oper} {rest : List Oper} {o : Oper} {a : Act} {Q : Exit → Act → World → Prop} (hg : o.guard = none) (m x : Operand) (hop : o.op = Op.call { callee := Callee.builtin Builtin.delete, args := #[m, x], argTypes := #[77, 3] }) (b : Nat) (S : List Int)
    (hm : a.eval m = .map (some b)) (h : SetM w b S) (y : Int) (hx : a.eval x = .int .i64 y) (hS : y ∈ S)
    (hK : ∀ w', SetM w' b (S.erase y) → w.grownBy w' (some b) → wpList Try.prog ops Q rest (a.put o.dst (.tuple #[])) w') : wpList Try.prog ops Q (o :: rest) a w := by
  refine wpList_plain hg fun K' hK' => ?_
  obtain ⟨w', hrun, r1, r2⟩ := h.del hS o.type
  unfold Oper.wp
  simp [execOp, hop, resolve, invoke, builtin, hm, hx, hrun, Result.andThen]
  exact hK' _ _ (hK w' r1 r2)

/-- What comes in order from a number on: these, the next one, and what waits behind it. -/
def drain (m : Int) : Nat → Int → List Int → List Int × Int × List Int
  | 0, vr, S => ([], vr, S)
  | n + 1, vr, S => if vr ∈ S then let r := drain m n ((vr + 1) % m) (S.erase vr); (vr :: r.1, r.2) else ([], vr, S)

theorem take_bad (b bm : Nat) (m k vr ns : Int) (S : List Int) (w : World) (h : InW w b bm m k vr S) (hns : ok1B m ns = false) :
    Calls Try.prog 29 #[.pointer (some ⟨b, 0, none⟩), .int .i64 ns] w fun e w' => e = .returned (.tuple #[.slice none 0 0, .int .i64 1]) ∧ Below w.heap.size w w' := by
  have c0 := h.c0
  have k26 := right1 m ns w.heap.size _ (nc0 w (.int .i64 ns) 3)
  rw [hns] at k26
  clear hns
  go_enter Try.func29, Try.ntmps29
  go_wp2_with (go_at_call 26; refine k26.mono ?_; rintro e w1 ⟨rfl, rfl⟩)
  go_ret2
  exact ⟨rfl, below_new _ _⟩
theorem take_there (b bm : Nat) (m k vr ns : Int) (S : List Int) (w : World) (h : InW w b bm m k vr S) (hns : ok1B m ns = true) (hwf : Wf ns) (hS : ns ∈ S) :
    Calls Try.prog 29 #[.pointer (some ⟨b, 0, none⟩), .int .i64 ns] w fun e w' => e = .returned (.tuple #[.slice none 0 0, .int .i64 8]) ∧ Below w.heap.size w w' := by
  have c0 := h.c0
  have k26 := right1 m ns w.heap.size _ (nc0 w (.int .i64 ns) 3)
  have h2 := h.below (below_new w (.cells #[.int .i64 ns] 3))
  have c3 := h2.c3
  have hl := h2.set.look hwf
  rw [hns] at k26
  have e : decide (ns ∈ S) = true := by simpa using hS
  rw [e] at hl
  clear hns hS e
  go_enter Try.func29, Try.ntmps29
  go_wp2_with (go_at_call 26; refine k26.mono ?_; rintro e w1 ⟨rfl, rfl⟩)
  go_ret2
  exact ⟨rfl, below_new _ _⟩
theorem take_far (b bm : Nat) (m k vr ns : Int) (S : List Int) (w : World) (h : InW w b bm m k vr S) (hns : ok1B m ns = true) (hwf : Wf ns) (hS : ns ∉ S) (hf : k ≤ farI m vr ns) :
    Calls Try.prog 29 #[.pointer (some ⟨b, 0, none⟩), .int .i64 ns] w fun e w' => e = .returned (.tuple #[.slice none 0 0, .int .i64 7]) ∧ Below w.heap.size w w' := by
  have c0 := h.c0
  have k26 := right1 m ns w.heap.size _ (nc0 w (.int .i64 ns) 3)
  have h2 := h.below (below_new w (.cells #[.int .i64 ns] 3))
  have d0 := h2.c0
  have d1 := h2.c1
  have d2 := h2.c2
  have d3 := h2.c3
  have hl := h2.set.look hwf
  rw [hns] at k26
  have e : decide (ns ∈ S) = false := by simpa using hS
  rw [e] at hl
  clear hns hS e
  have hd := h2.drew
  have hf0 : decide (k ≤ farI m vr ns) = true := by simpa using hf
  go_enter Try.func29, Try.ntmps29
  go_wp2_with (go_at_call 26; refine k26.mono ?_; rintro e w1 ⟨rfl, rfl⟩)
  go_region_held3 (fun w' => w'.cell? ⟨b, 0, none⟩ = some (.int .i64 m) ∧ w'.cell? ⟨b, 1, none⟩ = some (.int .i64 k) ∧ w'.cell? ⟨b, 2, none⟩ = some (.int .i64 vr))
    (first | exact ⟨d0, d1, d2⟩ | exact ⟨h5.c0, h5.c1, h5.c2⟩ | go_keep)
    ((go_at_call 25; refine (far25 _ _ _ _).mono ?_; rintro e w5 ⟨rfl, hb5⟩; have h5 := hd.below hb5))
  go_wp2
  go_ret2
  exact ⟨rfl, (below_new _ _).trans ((below_drewN (Below.refl _ _) 1).trans (hb5.mono (by simp)))⟩
/-- What Take leaves where it takes: the list r.1 in memory of its own, the window at r.2. -/
def TakePost (w : World) (b bm : Nat) (m k : Int) (r : List Int × Int × List Int) (e : Ending) (w' : World) : Prop :=
  ∃ v, e = .returned (.tuple #[v, .int .i64 0]) ∧ RowI w' w.heap.size v r.1 ∧ InW w' b bm m k r.2.1 r.2.2 ∧ Only [b, bm] w w'
/-- The head of Take's loop: what has come, the next one, what waits; what is still to come. -/
def Loop29 (w : World) (b bm : Nat) (m k : Int) (N : Nat) (r : List Int × Int × List Int) (n : Nat) (v : Value) (wr : World) : Prop :=
  ∃ (out : List Int) (vr : Int) (S : List Int), RowI wr w.heap.size v out ∧ InW wr b bm m k vr S ∧ Only [b, bm] w wr ∧ r = (out ++ (drain m n vr S).1, (drain m n vr S).2) ∧ 0 ≤ vr ∧ vr < m ∧ S.length = n ∧ out.length + n = N
theorem loop29_step {w : World} {b bm : Nat} {m k : Int} {N : Nat} {r : List Int × Int × List Int} {n : Nat} {v : Value} {wr : World} {out : List Int} {vr : Int} {S : List Int} (hm : 0 < m) (hmem : vr ∈ S)
    (hrow : RowI wr w.heap.size v (out ++ [vr])) (hin : InW wr b bm m k ((vr + 1) % m) (S.erase vr)) (hon : Only [b, bm] w wr) (hdr : r = (out ++ (drain m n vr S).1, (drain m n vr S).2)) (hl : S.length = n) (ho : out.length + n = N) :
    n - 1 < n ∧ Loop29 w b bm m k N r (n - 1) v wr := by
  have hpos : 0 < S.length := List.length_pos_of_mem hmem
  obtain ⟨n', rfl⟩ : ∃ n', n = n' + 1 := ⟨n - 1, by omega⟩
  refine ⟨by omega, out ++ [vr], (vr + 1) % m, S.erase vr, hrow, hin, hon, ?_, Int.emod_nonneg _ (by omega), Int.emod_lt_of_pos _ hm, ?_, ?_⟩
  · rw [hdr]
    simp [drain, hmem]
  · rw [List.length_erase_of_mem hmem]; omega
  · simp; omega
theorem stepI_one {m a : Int} (hm : m = 8 ∨ m = 128) (h0 : 0 ≤ a) (h1 : a < m) : stepI m a 1 = (a + 1) % m := by
  have : ok1B m a = true := by simp [ok1B, inB, modB, h0, h1, hm]
  rw [stepI, if_pos this]
  rcases hm with rfl | rfl
  · show (a + 1 + 8) % 8 = _; omega
  · show (a + 1 + 128) % 128 = _; omega
theorem InW.setVr {w : World} {b bm : Nat} {m k vr x : Int} {S : List Int} (h : InW w b bm m k vr S) : InW (w.setCell ⟨b, 2, none⟩ (.int .i64 x)) b bm m k x S := by
  refine ⟨?_, h.set.only ((Only.refl [b] w).setCell (by simp) _) (by simpa using h.ne.symm)⟩
  have := heap_set h.blk 2 (.int .i64 x)
  simpa using this
theorem farI_bd {m a b : Int} (h : ok2B m a b = true) : 0 ≤ farI m a b ∧ farI m a b < m := by
  have hm : (m = 8 ∨ m = 128) ∧ 0 ≤ a ∧ a < m ∧ 0 ≤ b ∧ b < m := by simp [ok2B, inB, modB] at h; omega
  rw [farI, if_pos h]
  constructor
  · exact Int.emod_nonneg _ (by omega)
  · exact Int.emod_lt_of_pos _ (by omega)

set_option maxHeartbeats 4000000 in
theorem take_in (b bm : Nat) (m k vr ns : Int) (S : List Int) (w : World) (h : InW w b bm m k vr S) (hns : ok1B m ns = true) (hS : ns ∉ S) (hf : farI m vr ns < k) (hv0 : 0 ≤ vr) (hv1 : vr < m) (hlen : S.length ≤ 500) :
    Calls Try.prog 29 #[.pointer (some ⟨b, 0, none⟩), .int .i64 ns] w (TakePost w b bm m k (drain m (S.length + 1) vr (ns :: S))) := by
  have hb : (m = 8 ∨ m = 128) ∧ 0 ≤ ns ∧ ns < m := by simp [ok1B, inB, modB] at hns; omega
  have hwf : Wf ns := wf_small hb.2.1 (by omega)
  have c0 := h.c0
  have k26 := right1 m ns w.heap.size _ (nc0 w (.int .i64 ns) 3)
  have h2 := h.below (below_new w (.cells #[.int .i64 ns] 3))
  have d0 := h2.c0
  have d1 := h2.c1
  have d2 := h2.c2
  have d3 := h2.c3
  have hl := h2.set.look hwf
  rw [hns] at k26
  have e : decide (ns ∈ S) = false := by simpa using hS
  rw [e] at hl
  clear hns e
  have hd := h2.drew
  have hf0 : decide (k ≤ farI m vr ns) = false := by simp; omega
  have HB := Lib.hid hb
  have HS := Lib.hid hS
  clear hb hS
  go_enter Try.func29, Try.ntmps29
  go_wp2_with (go_at_call 26; refine k26.mono ?_; rintro e w1 ⟨rfl, rfl⟩)
  go_region_held3 (fun w' => w'.cell? ⟨b, 0, none⟩ = some (.int .i64 m) ∧ w'.cell? ⟨b, 1, none⟩ = some (.int .i64 k) ∧ w'.cell? ⟨b, 2, none⟩ = some (.int .i64 vr))
    (first | exact ⟨d0, d1, d2⟩ | exact ⟨h5.c0, h5.c1, h5.c2⟩ | go_keep)
    ((go_at_call 25; refine (far25 _ _ _ _).mono ?_; rintro e w5 ⟨rfl, hb5⟩; have h5 := hd.below hb5))
  have p3 := h5.c3
  have HS5 := h5.set
  have hbl5 := h5.blk
  have hne := h.ne
  have o5 : Only [b, bm] w w5 := ((Only.refl [b, bm] w).alloc _).drew.below hb5 (by simp)
  go_wp2_with (at_mapUpdate; refine wpList_put_set rfl _ _ _ rfl bm S rfl HS5 ns rfl rfl HB.out.2.1 (by have := HB.out; omega) HS.out (by omega) ?_; intro w6 hset6 hg6)
  have h6 : InW w6 b bm m k vr (ns :: S) := ⟨(hg6.block b (heap_lt hbl5) (by simpa using hne)).trans hbl5, hset6⟩
  have o6 : Only [b, bm] w w6 := o5.grown hg6 (by simp)
  have hle : w.heap.size ≤ w6.heap.size := o6.size
  clear hg6 hset6 o5 hbl5 HS5 p3 hb5 h5 hd hl h2 d0 d1 d2 d3 c0 k26 hf0
  have HR := Lib.hid (rfl : drain m (S.length + 1) vr (ns :: S) = drain m (S.length + 1) vr (ns :: S))
  go_loopg [6] (S.length + 1) (fun n v wr => Loop29 w b bm m k (S.length + 1) (drain m (S.length + 1) vr (ns :: S)) n v wr)
  case atStart => exact ⟨[], vr, ns :: S, RowI.nil _ _, h6, o6, by simp, hv0, hv1, by simp, by simp⟩
  case round =>
    obtain ⟨out, vr', S', hrow, hin, hon, hdr, hv0', hv1', hlen', hout⟩ := hrel
    clear h6 o6 HR
    have hwfv : Wf vr' := wf_small hv0' (by have := HB.out; omega)
    have c0 := hin.c0
    have c2 := hin.c2
    have c3 := hin.c3
    have hl := fun n => (hin.set.drewN n).look hwfv
    by_cases hmem : vr' ∈ S'
    · have e : decide (vr' ∈ S') = true := by simpa using hmem
      rw [e] at hl
      clear e
      have HM := Lib.hid hmem
      have HD := Lib.hid hdr
      have HL := Lib.hid hlen'
      have HO := Lib.hid hout
      clear hmem hdr hlen' hout
      go_wp2_with fail
      go_quiet (fail)
      clear hl
      go_wp2_with fail
      have hin7 := hin.drewN nq
      have hon7 := hon.drewN nq
      have hrow7 := hrow.drewN nq
      clear hin hon hrow c0 c2 c3
      generalize wr.drewN nq = w7 at *
      have c0 := hin7.c0
      have c2 := hin7.c2
      have c3 := hin7.c3
      go_still_tail 8, (by kernel_rfl)
      change wpList _ _ _ _ _ w7.drew
      have hin8 := hin7.drew
      have hset8 := hin8.set
      have hblk8 := hin8.blk
      have hbl : b < w.heap.size ∧ bm < w.heap.size := h.lt
      have hlo : out.length ≤ 10000 := by have := HO.out; omega
      have hon8 := hon7.drew
      have hbase8 : w.heap.size ≤ w7.heap.size := hon7.size
      have hrow8 : RowI w7.drew w.heap.size u6 out := hrow7
      clear hin7 hrow7 hon7
      go_wp2_with (first
        | (at_delete; refine wpList_del_set rfl _ _ rfl bm S' rfl hset8 vr' rfl HM.out ?_; intro w8 hs8 hg8; have hin9 : InW w8 b bm m k vr' (S'.erase vr') := ⟨(hg8.block b (heap_lt hblk8) (by simpa using hne)).trans hblk8, hs8⟩; have q0 := hin9.c0; have q2 := hin9.c2; have q3 := hin9.c3; have hon9 : Only [b, bm] w w8 := hon8.grown hg8 (by simp); have hrow9 : RowI w8 w.heap.size u6 out := hrow8.only ((Only.refl [bm] _).grown hg8 (by simp)) (by simp; omega); have hbase9 : w.heap.size ≤ w8.heap.size := hon9.size; clear hset8 hblk8 hin8 hon8 hrow8 hg8 hs8)
        | (at_builtin; refine wpList_append_row rfl _ _ rfl w.heap.size u6 out vr' rfl hrow9 rfl hlo hbase9 ?_; intro v' w10 hrow10 hg10))
      have hin10 := (hin9.only ((Only.refl [] w8).alloc (.cells #[.int .i64 vr'] 3)) (by simp) (by simp)).grown hg10 w.heap.size hrow9.own hbl.1 hbl.2
      have hon10 := (hon9.alloc (.cells #[.int .i64 vr'] 3)).grown hg10 (fun k hk => Or.inr (hrow9.own k hk))
      clear q0 q2 q3 hin9 hon9 hrow9 hg10
      have q0 := hin10.c0
      have q2 := hin10.c2
      have hst := Lib.hid (stepI_one HB.out.1 hv0' hv1')
      go_region_with (go_at_call 27; refine (step27 _ _ _ _).mono ?_; rintro e w11 ⟨rfl, hb11⟩; have hin11 := hin10.drew.below hb11; have f2 := hin11.f 2; have p2 := hin11.c2)
      all_goals
        have hin12 : InW (w11.setCell ⟨b, 2, none⟩ (.int .i64 (stepI m vr' 1))) b bm m k ((vr' + 1) % m) (S'.erase vr') := by rw [hst.out]; exact hin11.setVr
        have hon12 : Only [b, bm] w (w11.setCell ⟨b, 2, none⟩ (.int .i64 (stepI m vr' 1))) := (hon10.drew.below hb11 hon10.size).setCell (by simp) _
        have hrow12 : RowI (w11.setCell ⟨b, 2, none⟩ (.int .i64 (stepI m vr' 1))) w.heap.size v' (out ++ [vr']) := hrow10.only (((Only.refl [b] w10).drew.below hb11 (Nat.le_refl _)).setCell (by simp) _) (by simp; exact hbl.1)
        have hfin := loop29_step (by have := HB.out; omega) HM.out hrow12 hin12 hon12 HD.out HL.out HO.out
        have HF := Lib.hid hfin
        clear hin12 hon12 hrow12 hfin
        go_wp2
        go_roundg (gk - 1)
        case measure => exact HF.out.1
        case rel => exact HF.out.2
    · have e : decide (vr' ∈ S') = false := by simpa using hmem
      rw [e] at hl
      clear e
      have hd1 : drain m gk vr' S' = ([], vr', S') := by
        cases gk with
        | zero => rfl
        | succ n => simp [drain, hmem]
      rw [hd1] at hdr
      simp only [List.append_nil] at hdr
      have HD := Lib.hid hdr
      clear hmem hdr hlen' hout hd1
      go_wp2_with fail
      go_quiet (fail)
      clear hl
      go_wp2_with fail
      go_ret2
      unfold TakePost
      rw [HD.out]
      exact ⟨u6, rfl, hrow, hin.drewN nq, hon.drewN nq⟩
end Go.Proofs.Ytfloemimimkgaaa
