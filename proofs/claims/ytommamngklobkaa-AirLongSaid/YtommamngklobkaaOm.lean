/- Two maps that the air keeps: from stations to their bursts (OnM), also while it is ranged over (OnR), and from stations to bools (BoM): what a look-up, a store, a delete, len and range give. No conditions but those that each theorem names. -/
import Derived.Test.YtommamngklobkaaMem
import Derived.Maps.OwnOps
import Derived.Maps.OwnSet
import Derived.Maps.Views
import Derived.Maps.RangeWalk
namespace Go.Proofs.Ytommamngklobkaa
open Go.RowKit Go.Maps
set_option linter.unusedVariables false
theorem law3 : Keyed Try.prog 3 := int_keyed Try.underlying3
abbrev key (x : Int) : Lit := .int .i64 x
def Wf (x : Int) : Prop := (Lit.int .i64 x).wf = true
theorem wf_small {x : Int} (h0 : 0 ≤ x) (h1 : x < 1000) : Wf x := by
  unfold Wf
  exact WalkArith.wf_i64 (by omega)
theorem key_ne {x y : Int} (h : x ≠ y) : key x ≠ key y := by simpa [key] using h
theorem key_lit (x : Int) : WideAt.IsKeyLit (key x) := by simp [WideAt.IsKeyLit]
/-! ### a map to bools -/
theorem u77 : Try.prog.underlying 77 = some (.map 3 4) := Try.underlying77
theorem zero4 (w : World) : (zeroValue 4).run Try.prog w = .ok (.bool false) w := by kernel_rfl
theorem plainElem_bool_inv {H : Type} {P : Program} {e : TypeId} (he : P.underlying e = some .bool) {v : Value} {z : DataW H × List MemPlace} (h : plainElem P e v = some z) : ∃ c, v = .bool c ∧ z = (.lit (.bool c), []) := by
  unfold plainElem at h
  rw [he] at h
  cases v <;> simp at h
  exact ⟨_, rfl, h.symm⟩
/-- Block b is a map to bools, stored into at most N times, that holds f x at x. -/
def BoM (w : World) (b N : Nat) (f : Int → Bool) : Prop :=
  ∃ D : DataW Unit, w.ownsMap Try.prog 3 (plainElem Try.prog 4) b N D ∧ ∀ x, D.atKey (key x) (.lit (.bool false)) = .lit (.bool (f x))
theorem BoM.lt {w : World} {b N : Nat} {f : Int → Bool} (h : BoM w b N f) : b < w.heap.size := by obtain ⟨D, h, _⟩ := h; exact h.lt
theorem BoM.mono {w : World} {b N N' : Nat} {f : Int → Bool} (h : BoM w b N f) (hN : N ≤ N') : BoM w b N' f := by obtain ⟨D, h, k⟩ := h; exact ⟨D, h.mono hN, k⟩
theorem BoM.keep {w w' : World} {b N : Nat} {f : Int → Bool} (h : BoM w b N f) (hb : w'.heap[b]? = w.heap[b]?) : BoM w' b N f := by
  obtain ⟨D, ⟨es, clock, h1, r⟩, k⟩ := h
  exact ⟨D, ⟨es, clock, hb.trans h1, r⟩, k⟩
theorem BoM.only {L : List Nat} {w w' : World} {b N : Nat} {f : Int → Bool} (h : BoM w b N f) (ho : Only L w w') (hL : b ∉ L) : BoM w' b N f := h.keep (ho.block b h.lt hL)
theorem BoM.made (w : World) : BoM (w.alloc (.map #[] 0)) w.heap.size 0 (fun _ => false) :=
  ⟨.map [], World.ownsMap_made _ _ _ _, fun x => by simp [DataW.atKey]⟩
theorem BoM.isMap {w : World} {b N : Nat} {f : Int → Bool} (h : BoM w b N f) : ∃ es c, w.heap[b]? = some (.map es c) := by obtain ⟨D, ⟨es, clock, h1, r⟩, k⟩ := h; exact ⟨es, clock, h1⟩
theorem BoM.look {w : World} {b N : Nat} {f : Int → Bool} (h : BoM w b N f) {x : Int} (hx : Wf x) : (Instr.lookup 77 (.map (some b)) (.int .i64 x) false).run Try.prog w = .ok (.bool (f x)) w := by
  obtain ⟨D, ho, hat⟩ := h
  obtain ⟨v, ps, hrun, hv⟩ := ho.lookup law3 u77 (zero4 w) (plainElem_bool (H := Unit) Try.underlying4 false) (keyOf_int_mk Try.underlying3 hx)
  obtain ⟨c, rfl, hc⟩ := plainElem_bool_inv Try.underlying4 hv
  rw [hat x] at hc
  simp at hc
  rw [hrun, ← hc.1]
theorem BoM.put {w : World} {b N : Nat} {f : Int → Bool} (h : BoM w b N f) {x : Int} (hx : Wf x) (hN : N ≤ 1000000) (c : Bool) :
    ∃ w', (Instr.mapUpdate 77 (.map (some b)) (.int .i64 x) (.bool c)).run Try.prog w = .ok () w' ∧ BoM w' b (N + 1) (fun y => if y = x then c else f y) ∧ w.grownBy w' (some b) := by
  obtain ⟨D, ho, hat⟩ := h
  obtain ⟨w', hrun, ho', hg⟩ := ho.update law3 u77 (by unfold maxLen; omega) (keyOf_int_mk Try.underlying3 hx) (plainElem_bool (H := Unit) Try.underlying4 c)
  refine ⟨w', hrun, ⟨_, ho', fun y => ?_⟩, hg⟩
  by_cases e : y = x
  · subst e; rw [atKey_put_same (ho.tidy law3).isMap (key_lit y)]; simp
  · rw [atKey_put_other (key_ne e), hat y]; simp [e]
theorem wpList_put_bo {w : World} {ops : Array Oper} {rest : List Oper} {o : Oper} {a : Act} {Q : Exit → Act → World → Prop} (hg : o.guard = none) (m x v : Operand) (hop : o.op = Op.mapUpdate 77 m x v) (b N : Nat) (f : Int → Bool)
    (hm : a.eval m = .map (some b)) (h : BoM w b N f) (y : Int) (c : Bool) (hx : a.eval x = .int .i64 y) (hv : a.eval v = .bool c) (hy : Wf y) (hN : N ≤ 1000000)
    (hK : ∀ w', BoM w' b (N + 1) (fun z => if z = y then c else f z) → w.grownBy w' (some b) → wpList Try.prog ops Q rest (a.put o.dst undef) w') : wpList Try.prog ops Q (o :: rest) a w := by
  refine wpList_plain hg fun K' hK' => ?_
  obtain ⟨w', hrun, r1, r2⟩ := h.put hy hN c
  unfold Oper.wp
  simp [execOp, hop, hm, hx, hv, hrun, Result.andThen]
  exact hK' _ _ (hK w' r1 r2)
/-! ### a map to pointers -/
theorem u80 : Try.prog.underlying 80 = some (.map 3 76) := Try.underlying80
theorem zero76 (w : World) : (zeroValue 76).run Try.prog w = .ok (.pointer none) w := by kernel_rfl
/-- How a pointer to a block's head reads. -/
def ptrE : Value → Option (DataW Unit × List MemPlace)
  | .pointer none => some (.lit (.int .i64 (-1)), [])
  | .pointer (some ⟨b, 0, none⟩) => some (.lit (.int .i64 (b : Nat)), [])
  | _ => none
theorem ptrE_some (b : Nat) : ptrE (.pointer (some ⟨b, 0, none⟩)) = some (.lit (.int .i64 (b : Nat)), []) := rfl
theorem ptrE_inv {v : Value} {z : DataW Unit × List MemPlace} (h : ptrE v = some z) : (v = .pointer none ∧ z = (.lit (.int .i64 (-1)), [])) ∨ ∃ b : Nat, v = .pointer (some ⟨b, 0, none⟩) ∧ z = (.lit (.int .i64 (b : Nat)), []) := by
  unfold ptrE at h
  split at h
  · cases h; exact Or.inl ⟨rfl, rfl⟩
  · cases h; exact Or.inr ⟨_, rfl, rfl⟩
  · cases h
/-- The keys are just those of S, each once; the element at x leads to block p x. -/
structure OnD (D : DataW Unit) (S : List Int) (p : Int → Nat) : Prop where
  size : Maps.size D = S.length
  nodup : S.Nodup
  small : ∀ x ∈ S, 0 ≤ x ∧ x < 1000
  at' : ∀ x, D.atKey (key x) (.lit (.int .i64 (-1))) = if x ∈ S then .lit (.int .i64 (p x : Nat)) else .lit (.int .i64 (-1))
  has : ∀ x, Maps.has D (key x) = decide (x ∈ S)
def OnM (w : World) (b : Nat) (S : List Int) (p : Int → Nat) : Prop := ∃ n D, w.ownsMap Try.prog 3 ptrE b n D ∧ OnD D S p
theorem OnM.lt {w : World} {b : Nat} {S : List Int} {p : Int → Nat} (h : OnM w b S p) : b < w.heap.size := by obtain ⟨n, D, h, _⟩ := h; exact h.lt
theorem OnM.keep {w w' : World} {b : Nat} {S : List Int} {p : Int → Nat} (h : OnM w b S p) (hb : w'.heap[b]? = w.heap[b]?) : OnM w' b S p := by
  obtain ⟨n, D, ⟨es, clock, h1, r⟩, k⟩ := h
  exact ⟨n, D, ⟨es, clock, hb.trans h1, r⟩, k⟩
theorem OnM.only {L : List Nat} {w w' : World} {b : Nat} {S : List Int} {p : Int → Nat} (h : OnM w b S p) (ho : Only L w w') (hL : b ∉ L) : OnM w' b S p := h.keep (ho.block b h.lt hL)
theorem OnM.isMap {w : World} {b : Nat} {S : List Int} {p : Int → Nat} (h : OnM w b S p) : ∃ es c, w.heap[b]? = some (.map es c) := by obtain ⟨n, D, ⟨es, clock, h1, r⟩, k⟩ := h; exact ⟨es, clock, h1⟩
theorem OnM.nodup {w : World} {b : Nat} {S : List Int} {p : Int → Nat} (h : OnM w b S p) : S.Nodup := by obtain ⟨n, D, _, k⟩ := h; exact k.nodup
theorem OnM.made (w : World) (p : Int → Nat) : OnM (w.alloc (.map #[] 0)) w.heap.size [] p :=
  ⟨0, .map [], World.ownsMap_made _ _ _ _, rfl, List.nodup_nil, by simp, fun x => by simp [DataW.atKey], fun x => by simp [has_eq]⟩
theorem OnM.look {w : World} {b : Nat} {S : List Int} {p : Int → Nat} (h : OnM w b S p) {x : Int} (hx : Wf x) : (Instr.lookup 80 (.map (some b)) (.int .i64 x) false).run Try.prog w = .ok (.pointer (if x ∈ S then some ⟨p x, 0, none⟩ else none)) w := by
  obtain ⟨n, D, ho, hd⟩ := h
  obtain ⟨v, ps, hrun, hv⟩ := ho.lookup law3 u80 (zero76 w) (zd := .lit (.int .i64 (-1))) (zp := []) rfl (keyOf_int_mk Try.underlying3 hx)
  rw [hd.at' x] at hv
  rw [hrun]
  by_cases hm : x ∈ S
  · rw [if_pos hm] at hv
    rcases ptrE_inv hv with ⟨rfl, hz⟩ | ⟨q, rfl, hz⟩
    · simp at hz
    · simp at hz
      obtain ⟨hz, _⟩ := hz
      have : q = p x := by omega
      rw [if_pos hm, this]
  · rw [if_neg hm] at hv
    rcases ptrE_inv hv with ⟨rfl, hz⟩ | ⟨q, rfl, hz⟩
    · rw [if_neg hm]
    · simp at hz
theorem OnM.look_in {w : World} {b : Nat} {S : List Int} {p : Int → Nat} (h : OnM w b S p) {x : Int} (hx : Wf x) (hm : x ∈ S) : (Instr.lookup 80 (.map (some b)) (.int .i64 x) false).run Try.prog w = .ok (.pointer (some ⟨p x, 0, none⟩)) w := by
  rw [h.look hx, if_pos hm]
theorem OnM.look_out {w : World} {b : Nat} {S : List Int} {p : Int → Nat} (h : OnM w b S p) {x : Int} (hx : Wf x) (hm : x ∉ S) : (Instr.lookup 80 (.map (some b)) (.int .i64 x) false).run Try.prog w = .ok (.pointer none) w := by
  rw [h.look hx, if_neg hm]
theorem OnM.len {w : World} {b : Nat} {S : List Int} {p : Int → Nat} (h : OnM w b S p) (ty : TypeId) : (Builtin.len_ #[80] ty #[.map (some b)]).run Try.prog w = .ok (.int .i64 S.length) w := by
  obtain ⟨n, D, ho, hs⟩ := h
  rw [ho.len u80, hs.size]
theorem OnM.put {w : World} {b : Nat} {S : List Int} {p : Int → Nat} (h : OnM w b S p) {x : Int} (hx0 : 0 ≤ x) (hx1 : x < 1000) (hS : x ∉ S) (hlen : S.length ≤ 1000) (q : Nat) :
    ∃ w', (Instr.mapUpdate 80 (.map (some b)) (.int .i64 x) (.pointer (some ⟨q, 0, none⟩))).run Try.prog w = .ok () w' ∧ OnM w' b (x :: S) (fun y => if y = x then q else p y) ∧ w.grownBy w' (some b) := by
  obtain ⟨n, D, ho, hd⟩ := h
  have ho2 : w.ownsMap Try.prog 3 ptrE b (Maps.size D) D := by
    obtain ⟨es, clock, h1, h2, h3, h4⟩ := ho
    exact ⟨es, clock, h1, h2, by rw [h4]; simp [Maps.size, length_sorted], h4⟩
  have hml : Maps.size D < maxLen := by rw [hd.size]; unfold maxLen; omega
  obtain ⟨w', hrun, ho', hg⟩ := ho2.update law3 u80 hml (keyOf_int_mk Try.underlying3 (wf_small hx0 hx1)) (ptrE_some q)
  have hti := ho.tidy law3
  refine ⟨w', hrun, ⟨_, _, ho', ?_, ?_, ?_, ?_, ?_⟩, hg⟩
  · rw [size_put hti, hd.has x]; simp [hS, hd.size]
  · exact List.nodup_cons.2 ⟨hS, hd.nodup⟩
  · intro y hy
    rcases List.mem_cons.1 hy with rfl | h1
    · omega
    · exact hd.small y h1
  · intro y
    by_cases e : y = x
    · subst e; rw [atKey_put_same hti.isMap (key_lit y)]; simp
    · rw [atKey_put_other (key_ne e), hd.at' y]; simp [e]
  · intro y
    by_cases e : y = x
    · subst e; rw [has_put_same hti.isMap (key_lit y)]; simp
    · rw [has_put_other (key_ne e), hd.has y]; simp [e]
theorem wpList_put_on {w : World} {ops : Array Oper} {rest : List Oper} {o : Oper} {a : Act} {Q : Exit → Act → World → Prop} (hg : o.guard = none) (m x v : Operand) (hop : o.op = Op.mapUpdate 80 m x v) (b : Nat) (S : List Int) (p : Int → Nat)
    (hm : a.eval m = .map (some b)) (h : OnM w b S p) (y : Int) (q : Nat) (hx : a.eval x = .int .i64 y) (hv : a.eval v = .pointer (some ⟨q, 0, none⟩)) (h0 : 0 ≤ y) (h1 : y < 1000) (hS : y ∉ S) (hlen : S.length ≤ 1000)
    (hK : ∀ w', OnM w' b (y :: S) (fun z => if z = y then q else p z) → w.grownBy w' (some b) → wpList Try.prog ops Q rest (a.put o.dst undef) w') : wpList Try.prog ops Q (o :: rest) a w := by
  refine wpList_plain hg fun K' hK' => ?_
  obtain ⟨w', hrun, r1, r2⟩ := h.put h0 h1 hS hlen q
  unfold Oper.wp
  simp [execOp, hop, hm, hx, hv, hrun, Result.andThen]
  exact hK' _ _ (hK w' r1 r2)
/-- The map ranged over, by the iterator in block r: rem x: the entry at x is still to come. -/
def OnR (w : World) (b r : Nat) (S : List Int) (p : Int → Nat) (rem : Int → Bool) : Prop :=
  ∃ n D left cnt, w.ranges Try.prog 3 ptrE b r n D left cnt ∧ OnD D S p ∧ (∀ x, left (key x) = rem x) ∧ ∀ x, rem x = true → x ∈ S
theorem OnR.owns {w : World} {b r : Nat} {S : List Int} {p : Int → Nat} {rem : Int → Bool} (h : OnR w b r S p rem) : OnM w b S p := by
  obtain ⟨n, D, left, cnt, hr, hd, _⟩ := h
  exact ⟨n, D, hr.owns, hd⟩
theorem OnR.lt {w : World} {b r : Nat} {S : List Int} {p : Int → Nat} {rem : Int → Bool} (h : OnR w b r S p rem) : r < w.heap.size := by
  obtain ⟨n, D, left, cnt, hr, _⟩ := h; exact hr.lt
theorem OnR.ne {w : World} {b r : Nat} {S : List Int} {p : Int → Nat} {rem : Int → Bool} (h : OnR w b r S p rem) : r ≠ b := by
  obtain ⟨n, D, left, cnt, hr, _⟩ := h; exact hr.ne
theorem OnR.only {L : List Nat} {w w' : World} {b r : Nat} {S : List Int} {p : Int → Nat} {rem : Int → Bool} (h : OnR w b r S p rem) (ho : Only L w w') (hb : b ∉ L) (hr : r ∉ L) : OnR w' b r S p rem := by
  have l1 := h.owns.lt
  have l2 := h.lt
  obtain ⟨n, D, left, cnt, ⟨es, clock, since, seen, c0, h1, F, hs, hD, h2, rest⟩, k⟩ := h
  exact ⟨n, D, left, cnt, ⟨es, clock, since, seen, c0, (ho.block b l1 hb).trans h1, F, hs, hD, (ho.block r l2 hr).trans h2, rest⟩, k⟩
theorem OnR.left_only {L : List Nat} {w w' : World} {b r : Nat} {S : List Int} {p : Int → Nat} {rem : Int → Bool} (h : OnR w b r S p rem) (ho : Only L w w') (hb : b ∉ L) (hr : r ∉ L) : w'.rangeLeft b r = w.rangeLeft b r := by
  unfold World.rangeLeft
  rw [ho.block b h.owns.lt hb, ho.block r h.lt hr]
theorem wpList_range_on {w : World} {ops : Array Oper} {rest : List Oper} {o : Oper} {a : Act} {Q : Exit → Act → World → Prop} (hg : o.guard = none) (m : Operand) (hop : o.op = Op.range 80 m) (b : Nat) (S : List Int) (p : Int → Nat)
    (hm : a.eval m = .map (some b)) (h : OnM w b S p)
    (hK : ∀ w', OnR w' b w.heap.size S p (fun x => decide (x ∈ S)) → Only [] w w' → w'.heap.size = w.heap.size + 1 → wpList Try.prog ops Q rest (a.put o.dst (.pointer (some ⟨w.heap.size, 0, none⟩))) w') :
    wpList Try.prog ops Q (o :: rest) a w := by
  obtain ⟨n, D, ho, hd⟩ := h
  refine wpList_range_own w hg m 80 hop 3 76 law3 u80 ptrE b n D hm ho fun w' h1 h2 h3 => hK w' ⟨n, D, _, _, h1, hd, fun x => hd.has x, fun x hx => by simpa using hx⟩ ?_ h3
  exact (Only.refl [] w).grown h2 (fun k hk => by cases hk)
theorem wpList_next_on {w : World} {ops : Array Oper} {rest : List Oper} {o : Oper} {a : Act} {Q : Exit → Act → World → Prop} (hg : o.guard = none) (it : Operand) (hop : o.op = Op.next it false) (b r : Nat) (S : List Int) (p : Int → Nat) (rem : Int → Bool)
    (hit : a.eval it = .pointer (some ⟨r, 0, none⟩)) (h : OnR w b r S p rem)
    (hDone : (∀ x, rem x = false) → wpList Try.prog ops Q rest (a.put o.dst (.tuple #[.bool false])) w)
    (hMore : ∀ (x : Int) (w' : World), rem x = true → x ∈ S → OnR w' b r S p (fun y => rem y && !decide (y = x)) → w'.rangeLeft b r < w.rangeLeft b r → Only [r] w w' → w'.heap.size = w.heap.size →
      (Instr.entry (.pointer (some ⟨r, 0, none⟩))).run Try.prog w' = .ok (.tuple #[.int .i64 x, .pointer (some ⟨p x, 0, none⟩)]) w' → wpList Try.prog ops Q rest (a.put o.dst (.tuple #[.bool true, .int .i64 x, .pointer (some ⟨p x, 0, none⟩)])) w') :
    wpList Try.prog ops Q (o :: rest) a w := by
  obtain ⟨n, D, left, cnt, hr, hd, hl, hsub⟩ := h
  refine wpList_plain hg fun K' hK' => ?_
  unfold Oper.wp
  rcases hr.next law3 o.type with ⟨h0, hl0, hrun⟩ | ⟨k, v, kl, y, w', cnt', hkey, hlk, hv, hat, hrun, hrg, hlt, hgr, hsz, hen⟩
  · simp [execOp, hop, hit, hrun, Result.andThen]
    exact hK' _ _ (hDone fun x => by rw [← hl x]; exact hl0 _)
  · obtain ⟨x, rfl, rfl, hwx⟩ := Maps.keyOf_int_inv Try.underlying3 hkey
    have hrx : rem x = true := by rw [← hl x]; exact hlk
    have hxS := hsub x hrx
    have hz := hat (.lit (.int .i64 (-1)))
    rw [hd.at' x, if_pos hxS] at hz
    rcases ptrE_inv hv with ⟨rfl, e⟩ | ⟨q, rfl, e⟩
    · rw [e] at hz; simp at hz
    · rw [e] at hz
      simp at hz
      obtain rfl : q = p x := by omega
      simp [execOp, hop, hit, hrun, Result.andThen]
      refine hK' _ _ (hMore x w' hrx hxS ⟨n, D, _, _, hrg, hd, fun z => ?_, fun z hz => hsub z (by simp at hz; exact hz.1)⟩ (by rw [hrg.left_eq, hr.left_eq]; exact hlt) ((Only.refl [r] w).grown hgr (fun k hk => by cases hk; simp)) hsz hen)
      rw [hl z]
      by_cases e : z = x
      · subst e; simp [WideAt.sameKey_self (key_lit z)]
      · simp [Maps.sameKey_ne (key_ne e), e]
theorem wpList_delete_on {w : World} {ops : Array Oper} {rest : List Oper} {o : Oper} {a : Act} {Q : Exit → Act → World → Prop} (hg : o.guard = none) (m x : Operand) (hop : o.op = Op.call { callee := Callee.builtin Builtin.delete, args := #[m, x], argTypes := #[80, 3] }) (b r : Nat) (S : List Int) (p : Int → Nat) (rem : Int → Bool)
    (hm : a.eval m = .map (some b)) (h : OnR w b r S p rem) (y : Int) (hx : a.eval x = .int .i64 y) (hy : y ∈ S) (hry : rem y = false)
    (hK : ∀ w', OnR w' b r (S.filter fun z => !decide (z = y)) p rem → w'.rangeLeft b r ≤ w.rangeLeft b r → Only [b] w w' → wpList Try.prog ops Q rest (a.put o.dst (.tuple #[])) w') :
    wpList Try.prog ops Q (o :: rest) a w := by
  obtain ⟨n, D, left, cnt, hr, hd, hl, hsub⟩ := h
  have hy2 := hd.small y hy
  refine wpList_delete_ranges w hg m x 80 3 hop 76 law3 u80 ptrE b r n D left cnt hm hr (.int .i64 y) (key y) hx (keyOf_int_mk Try.underlying3 (wf_small hy2.1 hy2.2)) fun w' cnt' h1 h2 h3 => ?_
  have hti := hr.owns.tidy law3
  refine hK w' ⟨n, _, _, _, h1, ⟨?_, ?_, ?_, ?_, ?_⟩, ?_, ?_⟩ (by rw [h1.left_eq, hr.left_eq]; exact h2) ((Only.refl [b] w).grown h3.grown (fun k hk => by cases hk; simp))
  · have := size_del (k := key y) hti
    rw [hd.has y, hd.size, if_pos (by simpa using hy)] at this
    have e : (S.filter fun z => !decide (z = y)) = S.erase y := by
      rw [hd.nodup.erase_eq_filter]; congr 1
    rw [e, List.length_erase_of_mem hy]
    exact Nat.eq_sub_of_add_eq this
  · exact hd.nodup.filter _
  · intro z hz; exact hd.small z (List.mem_filter.1 hz).1
  · intro z
    by_cases e : z = y
    · subst e; rw [atKey_del_same]; simp
    · rw [atKey_del_other (key_ne e), hd.at' z]; simp [e]
  · intro z
    by_cases e : z = y
    · subst e; rw [has_del_same]; simp
    · rw [has_del_other (key_ne e), hd.has z]; simp [e]
  · intro z
    rw [← hl z]
    by_cases e : z = y
    · subst e; rw [hl z, hry]; rfl
    · simp [Maps.sameKey_ne (key_ne e)]
  · intro z hz
    have hzS := hsub z hz
    have : z ≠ y := by intro e; subst e; rw [hry] at hz; cases hz
    exact List.mem_filter.2 ⟨hzS, by simpa using this⟩
end Go.Proofs.Ytommamngklobkaa
