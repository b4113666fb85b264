/- The evaluator: functions; regions that draw their order; calls that are known, begun. No conditions but those that each theorem names. -/
import Derived.Test.YtgljampcnbgbhaaGreatDoorEl
import Derived.Orders
import Derived.Test.YtgljampcnbgbhaaGreatDoorEv
import Derived.Test.YtgljampcnbgbhaaGreatDoorProg
import Derived.Lib.MakeNoZero
import Derived.Lib.Bytealg
import Derived.Lib.Builder
set_option linter.unusedVariables false
set_option linter.unusedSimpArgs false
namespace Go.Proofs.YtgljampcnbgbhaaGreatDoor.Ev
open Go Go.RowKit

section
variable {C : Cx} {ρ : Ren} {H H' : Heap} {w : World} {c c' nt : Nat} {T : Tr Value} {a : Act} {ds : List Deferred} {E : Env} {call : Caller}
theorem resultsF_sound (hs : SR C ρ nt ds T a) (hW : WR C ρ H.get w) {f : ResultVar → Sem Value} (hf1 : ∀ t, f (.tmp t) = pure (a.tmps.getD t undef)) (hf2 : ∀ x t, f (.cell x t) = do loadVar t (← asAddr (a.tmps.getD x undef))) : ∀ (rs : List ResultVar) {vs : List Value}, resultsF C.P H T rs = some vs →
    ∃ vs', (rs.mapM f).run C.P w = .ok vs' w ∧ VRs C ρ vs vs' := by
  intro rs
  induction rs with
  | nil => intro vs h; simp [resultsF] at h; subst h; exact ⟨[], rfl, .nil⟩
  | cons r rs ih =>
    intro vs h
    rw [List.mapM_cons]
    cases r with
    | tmp t =>
      simp only [resultsF, bind, Option.bind_eq_some_iff] at h
      obtain ⟨v, hv, vs1, h1, h⟩ := h
      cases h
      obtain ⟨vs', k1, k2⟩ := ih h1
      refine ⟨a.tmps.getD t undef :: vs', ?_, .cons (hs.tmps t v hv) k2⟩
      simp only [hf1, Sem.run_bind, Sem.run_pure, Result.andThen_ok, k1]
    | cell x t =>
      simp only [resultsF] at h
      split at h
      · rename_i ad hx
        simp only [bind, Option.bind_eq_some_iff] at h
        obtain ⟨v, hv, vs1, h1, h⟩ := h
        cases h
        obtain ⟨vs', k1, k2⟩ := ih h1
        have hr := hs.tmps x _ hx
        obtain ⟨pl, hsp, hp, he⟩ := hr.ptr_inv
        obtain ⟨v', q1, q2⟩ := ldVar_sound hW hv hp
        refine ⟨v' :: vs', ?_, .cons q2 k2⟩
        have hq : (asAddr (a.tmps.getD x undef)).run C.P w = .ok ⟨pl.blk, pl.sh + ad.off, none⟩ w := by rw [he]; rfl
        simp only [hf2, Sem.run_bind, hq, Sem.run_pure, Result.andThen_ok, q1, k1]
      · simp at h
theorem enterF_sound (hC : C.Good) (hE : E.P = C.P) {callN : Nat → Caller} (hcall : ∀ n, CallerSound C (callN n)) (hdr : ∀ nt, DrawnOK C E nt) {fn : Func} {cd : Code} {f : Nat} {args : List Value} {out : Out}
    (hf : C.P.funcs[f]? = some fn) (hn : (fn.name == "runtime.NumGoroutine") = false) (hb : fn.body = some cd) (h : enterF E callN fn cd args H c = some out) :
    c ≤ out.2.2 ∧ CallSound C f args H c out := by
  unfold enterF at h
  split at h
  case h_2 => cases h
  rename_i hle
  have hle := (ble_iff _ _).1 hle
  rw [lenL_eq] at hle
  simp only [Tr.ofList_eq] at h
  -- behind the body
  have main : ∀ {x : Ex} {T1 : Tr Value} {H1 : Heap} {c1 : Nat}, (x = .normal ∨ x = .ret) → codeF E fn.ntmps callN 4000 none cd (Tr.mk args) H c = some (x, T1, H1, c1) →
      (∃ vs, resultsF E.P H1 T1 fn.results.toList = some vs ∧ out = (match vs with | [v] => v | vs => .tuple ⟨vs⟩, H1, c1)) → c ≤ out.2.2 ∧ CallSound C f args H c out := by
    intro x T1 H1 c1 hx hcd ⟨vs, hvs, hout⟩
    subst hout
    have said := codeF_sound (ds := []) hC hE hcall (hdr fn.ntmps) 4000 none cd _ H c _ hcd
    refine ⟨said.le, fun ρ w args' hv hW hG hfr o a next Q hk => ?_⟩
    rw [MuLone.run_callFunc_enter hf hn hb]
    rw [Oper.upon_enter]
    refine calls_of_wp hf hb ?_
    have hlen := hv.length
    have hs : SR C ρ fn.ntmps [] (Tr.mk args) { tmps := args'.toArray ++ Array.replicate (fn.ntmps - args'.toArray.size) undef, defers := [] } := by
      refine ⟨fun t v ht => ?_, ?_, rfl⟩
      · rw [Tr.get_mk] at ht
        obtain ⟨v', h1, h2⟩ := hv.get t v ht
        have hlt := (List.getElem?_eq_some_iff.1 h1).1
        have : (args'.toArray ++ Array.replicate (fn.ntmps - args'.toArray.size) undef).getD t undef = v' := by
          rw [Array.getD_eq_getD_getElem?, Array.getElem?_append_left (by simpa using hlt)]
          simp [h1]
        rw [this]; exact h2
      · simp; omega
    refine Code.wp_mono (fun e a1 w1 ⟨he, ρ1, p1, p2⟩ => ?_) (said.wp rfl ρ _ w hs hW hG hfr)
    have body : bodyPost C.P fn (fun | .returned v, w'' => next (a.put o.dst v) w'' | .panicked chain, w'' => Q (.panic chain) a w'' | .outgrown, _ => LetsOut Q) .ret a1 w1 := by
      rw [hE] at hvs
      obtain ⟨vs', q1, q2⟩ := resultsF_sound (f := fun | .tmp t => pure (a1.tmps.getD t undef) | .cell x t => do loadVar t (← asAddr (a1.tmps.getD x undef))) p1 p2.wr (fun _ => rfl) (fun _ _ => rfl) _ hvs
      have hres : (results fn a1.tmps).run C.P w1 = .ok (if h : vs'.toArray.size = 1 then vs'.toArray[0] else .tuple vs'.toArray) w1 := by
        unfold results
        rw [Array.mapM_eq_mapM_toList]
        simp only [Sem.run_bind, Sem.run_map, Functor.map_map]
        exact (congrArg (fun r => Result.andThen (Result.andThen r _) _) q1).trans rfl
      refine ⟨p1.defers, _, hres, ?_⟩
      have hl2 := q2.length
      refine hk _ ρ1 w1 ?_ p2
      cases q2 with
      | nil => exact .tuple .nil
      | cons r t => cases t with
        | nil => exact r
        | cons r2 t2 =>
          simp only [List.size_toArray, List.length_cons]
          rw [dif_neg (by omega)]
          exact .tuple (.cons r (.cons r2 t2))
    rcases hx with rfl | rfl <;> subst he <;> exact body
  have fin : ∀ {x : Ex} {T1 : Tr Value} {H1 : Heap} {c1 : Nat}, (x = .normal ∨ x = .ret) → codeF E fn.ntmps callN 4000 none cd (Tr.mk args) H c = some (x, T1, H1, c1) →
      (match resultsF E.P H1 T1 fn.results.toList with
      | some [v] => some (v, H1, c1)
      | some vs => some (.tuple ⟨vs⟩, H1, c1)
      | none => none) = some out → c ≤ out.2.2 ∧ CallSound C f args H c out := by
    intro x T1 H1 c1 hx hcd hm
    refine main hx hcd ?_
    split at hm
    · rename_i v hv; cases hm; exact ⟨_, hv, rfl⟩
    · rename_i vs hne hv
      cases hm
      refine ⟨_, hv, ?_⟩
      cases vs with
      | nil => rfl
      | cons v t => cases t with
        | nil => exact (hne v rfl).elim
        | cons => rfl
    · cases hm
  split at h
  · rename_i hcd; exact fin (.inl rfl) hcd h
  · rename_i hcd; exact fin (.inr rfl) hcd h
  · cases h

/-- The functions that are named are the program's. -/
def Funs (C : Cx) (E : Env) : Prop := ∀ f fn, E.F f = some fn → C.P.funcs[f]? = some fn ∧ (fn.name == "runtime.NumGoroutine") = false
theorem callF_sound (hC : C.Good) (hE : E.P = C.P) (hF : Funs C E) (hdr : ∀ nt, DrawnOK C E nt) {hook : Nat → Option Hook}
    (hh : ∀ f h, hook f = some h → ∀ (call : Caller), CallerSound C call → ∀ (args : List Value) (H : Heap) (c : Nat) (out : Out), h call args H c = some out → c ≤ out.2.2 → CallSound C f args H c out) :
    ∀ fuel, CallerSound C (callF E hook fuel) := by
  intro fuel
  induction fuel with
  | zero => intro f args H c out h; simp [callF] at h
  | succ fuel ih =>
    intro f args H c out h
    simp only [callF] at h
    split at h
    · rename_i hk hhk
      split at h
      · rename_i v H1 c1 hout
        split at h
        · rename_i hle
          cases h
          have hle := (ble_iff _ _).1 hle
          exact ⟨hle, hh f hk hhk _ ih args H c _ hout hle⟩
        · cases h
      · cases h
    · split at h
      · cases h
      · rename_i fn hfn
        obtain ⟨g1, g2⟩ := hF f fn hfn
        split at h
        · cases h
        · rename_i cd hcd
          exact enterF_sound hC hE (fun _ => ih) hdr g1 g2 hcd h
end
end Go.Proofs.YtgljampcnbgbhaaGreatDoor.Ev
namespace Go.Proofs.YtgljampcnbgbhaaGreatDoor.Ev
open Go Go.RowKit
noncomputable section

theorem eqL_eq {α : Type} {f : α → α → Bool} : ∀ (l m : List α), (∀ x, x ∈ l → ∀ y, f x y = true → x = y) → eqL f l m = true → l = m
  | [], [], _, _ => rfl
  | [], _ :: _, _, h => by simp [eqL] at h
  | _ :: _, [], _, h => by simp [eqL] at h
  | x :: l, y :: m, hf, h => by
    simp only [eqL] at h
    split at h
    · rename_i hx
      rw [hf x (by simp) y hx, eqL_eq l m (fun x hx => hf x (by simp [hx])) h]
    · cases h
theorem eqO_eq {α : Type} {f : α → α → Bool} (hf : ∀ x y, f x y = true → x = y) : ∀ (l m : Option α), eqO f l m = true → l = m
  | none, none, _ => rfl
  | none, some _, h => by simp [eqO] at h
  | some _, none, h => by simp [eqO] at h
  | some x, some y, h => by simp only [eqO] at h; rw [hf x y h]
theorem eqA_eq (a b : Addr) (h : eqA a b = true) : a = b := by
  obtain ⟨i, o, s⟩ := a
  obtain ⟨j, p, r⟩ := b
  simp only [eqA, Bool.and_eq_true, beq_iff] at h
  obtain ⟨h1, h2, h3⟩ := h
  have := eqO_eq (fun x y h => (beq_iff x y).1 h) _ _ h3
  subst h1 h2 this; rfl
theorem eqS_eq (a b : ByteArray) (h : eqS a b = true) : a = b := by
  obtain ⟨⟨l⟩⟩ := a
  obtain ⟨⟨m⟩⟩ := b
  simp only [eqS] at h
  have := eqL_eq l m (fun x _ y h => UInt8.toNat_inj.1 ((beq_iff _ _).1 h)) h
  subst this; rfl
theorem eqV_eq : ∀ (f : Nat) (a b : Value), eqV f a b = true → a = b
  | 0, _, _, h => by simp [eqV] at h
  | f + 1, a, b, h => by
    have ls : ∀ {x y : Array Value}, eqL (eqV f) x.toList y.toList = true → x = y := fun h => Array.toList_inj.1 (eqL_eq _ _ (fun x _ y h => eqV_eq f x y h) h)
    unfold eqV at h
    split at h
    · simp at h; rw [h]
    · simp only [Bool.and_eq_true, decide_eq_true_eq] at h; obtain ⟨h1, h2⟩ := h; subst h1; rw [h2]
    · simp only [Bool.and_eq_true, decide_eq_true_eq, beq_iff] at h; rw [h.1, h.2]
    · simp only [Bool.and_eq_true, decide_eq_true_eq, beq_iff] at h; rw [h.1, h.2.1, h.2.2]
    · rw [eqS_eq _ _ h]
    · rw [eqO_eq eqA_eq _ _ h]
    · simp only [Bool.and_eq_true, beq_iff] at h; rw [eqO_eq eqA_eq _ _ h.1, h.2.1, h.2.2]
    · rw [eqO_eq (fun x y h => (beq_iff x y).1 h) _ _ h]
    · rw [eqO_eq (fun x y h => (beq_iff x y).1 h) _ _ h]
    · simp only [Bool.and_eq_true, beq_iff] at h; rw [h.1, ls h.2.1, ls h.2.2]
    · rfl
    · simp only [Bool.and_eq_true, beq_iff] at h; rw [h.1, eqV_eq f _ _ h.2]
    · rfl
    · rw [ls h]
    · rw [ls h]
    · cases h

/-! Blocks made in a region. -/
def hp (p : Nat) : List Pend → Heap → Heap
  | [], H => H
  | (i, id, b) :: l, H => hp p l (match Nat.testBit p i with | true => H.set id (some b) | false => H)
def hA : List Pend → Heap → Heap
  | [], H => H
  | (_, id, b) :: l, H => hA l (H.set id (some b))
theorem heapP_eq {R : Type} (p : Nat) : ∀ (l : List Pend) (H : Heap) (K : Heap → R), heapP p l H K = K (hp p l H)
  | [], H, K => rfl
  | (i, id, b) :: l, H, K => by
    simp only [heapP, hp]
    cases Nat.testBit p i with
    | true => simp only [Tr.setK_eq]; exact heapP_eq p l _ K
    | false => exact heapP_eq p l _ K
theorem heapAll_eq {R : Type} : ∀ (l : List Pend) (H : Heap) (K : Heap → R), heapAll l H K = K (hA l H)
  | [], H, K => rfl
  | (i, id, b) :: l, H, K => by
    simp only [heapAll, hA, Tr.setK_eq]; exact heapAll_eq l _ K
theorem hp_get (p : Nat) : ∀ (l : List Pend) (H : Heap) (x : Nat) (k : Blk), (hp p l H).get x = some k → H.get x = some k ∨ ∃ i, (i, x, k) ∈ l ∧ Nat.testBit p i = true
  | [], H, x, k, h => .inl h
  | (i, id, b) :: l, H, x, k, h => by
    simp only [hp] at h
    rcases hp_get p l _ x k h with h1 | ⟨i', h1, h2⟩
    · cases ht : Nat.testBit p i with
      | true =>
        simp only [ht, Tr.get_set] at h1
        split at h1
        · rename_i e; subst e; cases h1; exact .inr ⟨i, by simp, ht⟩
        · exact .inl h1
      | false => simp only [ht] at h1; exact .inl h1
    · exact .inr ⟨i', by simp [h1], h2⟩
theorem hA_get : ∀ (l : List Pend) (H : Heap) (x : Nat) (k : Blk), (hA l H).get x = some k → H.get x = some k ∨ ∃ i, (i, x, k) ∈ l
  | [], H, x, k, h => .inl h
  | (i, id, b) :: l, H, x, k, h => by
    simp only [hA] at h
    rcases hA_get l _ x k h with h1 | ⟨i', h1⟩
    · rw [Tr.get_set] at h1
      split at h1
      · rename_i e; subst e; cases h1; exact .inr ⟨i, by simp⟩
      · exact .inl h1
    · exact .inr ⟨i', by simp [h1]⟩

def putT (dst : Option Tmp) (v : Value) (T : Tr Value) : Tr Value := match dst with
  | none => T
  | some d => T.set d (some v)
theorem putF_eq {R : Type} {nt : Nat} {dst : Option Tmp} {v : Value} {T : Tr Value} {K : Tr Value → Option R} {r : R} (h : putF nt dst v T K = some r) :
    (∀ d, dst = some d → d < nt) ∧ K (putT dst v T) = some r := by
  unfold putF at h
  split at h
  · exact ⟨(fun d e => by cases e), h⟩
  · rename_i d
    split at h
    · rename_i hd
      rw [Tr.setK_eq] at h
      exact ⟨fun d' e => by cases e; exact (blt_iff _ _).1 hd, h⟩
    · cases h

section
variable (E : Env) (call : Caller) (nt : Nat) (all : List Oper)
/-- What one operation does to what is known. -/
inductive Stp (p i : Nat) (o : Oper) (x y : Conf) : Prop
  | s (hw : wantF all x.T o = some false) (ht : y.T = putT o.dst undef x.T) (hB : y.B = x.B) (hc : y.c = x.c) (hp : y.pend = x.pend) (hh : y.hist = x.hist) (hr : y.reads = x.reads)
  | p (v : Value) (hw : wantF all x.T o = some true) (hk : clsOf E.P o.op = .p) (hv : opV E.P x.T .e o = some v) (ht : y.T = putT o.dst v x.T) (hB : y.B = x.B) (hc : y.c = x.c) (hp : y.pend = x.pend) (hh : y.hist = x.hist) (hr : y.reads = x.reads)
  | l (v : Value) (hw : wantF all x.T o = some true) (hk : clsOf E.P o.op = .l) (hv : opV E.P x.T (hp p x.pend x.B) o = some v) (ho : histOk E p o x.T v x.hist = true) (ht : y.T = putT o.dst v x.T) (hB : y.B = x.B) (hc : y.c = x.c) (hp : y.pend = x.pend) (hh : y.hist = x.hist) (hr : y.reads = (i, o, x.T, v) :: x.reads)
  | n (v : Value) (b : Blk) (hw : wantF all x.T o = some true) (hk : clsOf E.P o.op = .n) (hv : opN E.P x.T x.c o = some (v, b)) (ht : y.T = putT o.dst v x.T) (hB : y.B = x.B) (hc : y.c = x.c + 1) (hp : y.pend = x.pend ++ [(i, x.c, b)]) (hh : y.hist = x.hist) (hr : y.reads = x.reads)
  | x (v : Value) (hw : wantF all x.T o = some true) (hk : clsOf E.P o.op = .x) (h1 : pendOk p x.pend = true) (h2 : histIn p x.hist = true) (hv : opX E.P x.T (hA x.pend x.B) call x.c o = some (v, y.B, y.c)) (ho : readsOk E p y.B x.reads = true) (hle : x.c ≤ y.c) (ht : y.T = putT o.dst v x.T) (hp : y.pend = []) (hh : y.hist = (i, x.B, x.pend) :: x.hist) (hr : y.reads = x.reads)
variable {E call nt all} {bs : List Nat}
theorem stepD_stp {i : Nat} {o : Oper} {x y : Conf} (h : stepD E call nt all bs i o x = some y) : Stp E call all ((nth bs i).getD 0) i o x y ∧ ∀ d, o.dst = some d → d < nt := by
  unfold stepD at h
  simp only at h
  split at h
  · cases h
  · rename_i hw
    obtain ⟨hd, h⟩ := putF_eq h
    cases h
    exact ⟨.s hw rfl rfl rfl rfl rfl rfl, hd⟩
  · rename_i hw
    split at h
    · rename_i hk
      simp only [bind, Option.bind_eq_some_iff] at h
      obtain ⟨v, hv, h⟩ := h
      obtain ⟨hd, h⟩ := putF_eq h
      cases h
      exact ⟨.p v hw hk hv rfl rfl rfl rfl rfl rfl, hd⟩
    · rename_i hk
      simp only [bind, Option.bind_eq_some_iff, heapP_eq] at h
      obtain ⟨v, hv, h⟩ := h
      split at h
      · rename_i ho
        obtain ⟨hd, h⟩ := putF_eq h
        cases h
        exact ⟨.l v hw hk hv ho rfl rfl rfl rfl rfl rfl, hd⟩
      · cases h
    · rename_i hk
      simp only [bind, Option.bind_eq_some_iff] at h
      obtain ⟨⟨v, b⟩, hv, h⟩ := h
      obtain ⟨hd, h⟩ := putF_eq h
      simp only [forceN_eq] at h
      cases h
      exact ⟨.n v b hw hk hv rfl rfl rfl rfl rfl rfl, hd⟩
    · rename_i hk
      split at h
      · rename_i hpp
        simp only [Bool.and_eq_true] at hpp
        simp only [bind, Option.bind_eq_some_iff, heapAll_eq] at h
        obtain ⟨⟨v, H, c⟩, hv, h⟩ := h
        split at h
        · rename_i hrr
          simp only [Bool.and_eq_true, ble_iff] at hrr
          obtain ⟨hd, h⟩ := putF_eq h
          cases h
          exact ⟨.x v hw hk hpp.1 hpp.2 hv hrr.1 hrr.2 rfl rfl rfl rfl, hd⟩
        · cases h
      · cases h
theorem drawF_run : ∀ (ops : List Oper) (i : Nat) (x y : Conf), drawF E call nt all bs i ops x = some y →
    ∃ X : Nat → Conf, X i = x ∧ X (i + ops.length) = y ∧ ∀ k o, ops[k]? = some o → stepD E call nt all bs (i + k) o (X (i + k)) = some (X (i + k + 1))
  | [], i, x, y, h => by
    simp only [drawF, Option.some.injEq] at h
    subst h
    exact ⟨fun _ => x, rfl, rfl, fun k o e => by simp at e⟩
  | o :: ops, i, x, y, h => by
    simp only [drawF] at h
    split at h
    · rename_i x1 h1
      obtain ⟨X, q1, q2, q3⟩ := drawF_run ops (i + 1) x1 y h
      refine ⟨fun j => if j = i then x else X j, if_pos rfl, ?_, fun k o' e => ?_⟩
      · show (if i + (ops.length + 1) = i then x else X (i + (ops.length + 1))) = y
        rw [if_neg (by omega), ← q2]; congr 1; omega
      · cases k with
        | zero =>
          simp at e; subst e
          show stepD E call nt all bs i o (if i = i then x else X i) = some (if i + 1 = i then x else X (i + 1))
          rw [if_pos rfl, if_neg (by omega), q1]; exact h1
        | succ k =>
          simp only [List.getElem?_cons_succ] at e
          have := q3 k o' e
          show stepD E call nt all bs (i + (k + 1)) o' (if i + (k + 1) = i then x else X (i + (k + 1))) = some (if i + (k + 1) + 1 = i then x else X (i + (k + 1) + 1))
          rw [if_neg (by omega), if_neg (by omega)]
          have e1 : i + (k + 1) = i + 1 + k := by omega
          rw [e1]; exact this
    · cases h
theorem histOk_mem {p : Nat} {o : Oper} {T : Tr Value} {v : Value} : ∀ {l : List (Nat × Heap × List Pend)}, histOk E p o T v l = true → ∀ k B pend, (k, B, pend) ∈ l → Nat.testBit p k = false → opV E.P T (hp p pend B) o = some v
  | [], _, k, B, pend, hm, _ => by cases hm
  | (k', B', pend') :: l, h, k, B, pend, hm, ht => by
    simp only [histOk, heapP_eq] at h
    split at h
    · rename_i hb
      rcases List.mem_cons.1 hm with e | hm
      · cases e; rw [hb] at ht; cases ht
      · exact histOk_mem h k B pend hm ht
    · split at h
      · rename_i u hu
        split at h
        · rename_i he
          rcases List.mem_cons.1 hm with e | hm
          · cases e; rw [hu, eqV_eq _ _ _ he]
          · exact histOk_mem h k B pend hm ht
        · cases h
      · cases h
theorem readsOk_mem {p : Nat} {B : Heap} : ∀ {l : List (Nat × Oper × Tr Value × Value)}, readsOk E p B l = true → ∀ j o T v, (j, o, T, v) ∈ l → Nat.testBit p j = false → opV E.P T B o = some v
  | [], _, k, o, T, v, hm, _ => by cases hm
  | (j', o', T', v') :: l, h, j, o, T, v, hm, ht => by
    simp only [readsOk] at h
    split at h
    · rename_i hb
      rcases List.mem_cons.1 hm with e | hm
      · cases e; rw [hb] at ht; cases ht
      · exact readsOk_mem h j o T v hm ht
    · split at h
      · rename_i u hu
        split at h
        · rename_i he
          rcases List.mem_cons.1 hm with e | hm
          · cases e; rw [hu, eqV_eq _ _ _ he]
          · exact readsOk_mem h j o T v hm ht
        · cases h
      · cases h
theorem pendOk_mem {p : Nat} : ∀ {l : List Pend}, pendOk p l = true → ∀ i id b, (i, id, b) ∈ l → Nat.testBit p i = true
  | [], _, i, id, b, hm => by cases hm
  | (i', id', b') :: l, h, i, id, b, hm => by
    simp only [pendOk] at h
    split at h
    · rename_i hb
      rcases List.mem_cons.1 hm with e | hm
      · cases e; exact hb
      · exact pendOk_mem h i id b hm
    · cases h
theorem histIn_mem {p : Nat} : ∀ {l : List (Nat × Heap × List Pend)}, histIn p l = true → ∀ k B pend, (k, B, pend) ∈ l → Nat.testBit p k = true
  | [], _, i, id, b, hm => by cases hm
  | (i', id', b') :: l, h, i, id, b, hm => by
    simp only [histIn] at h
    split at h
    · rename_i hb
      rcases List.mem_cons.1 hm with e | hm
      · cases e; exact hb
      · exact histIn_mem h i id b hm
    · cases h

/-! Edges. -/
theorem edgesOk_get : ∀ (l : List Oper) (i : Nat), edgesOk i l = true → ∀ k o, l[k]? = some o → ∀ e ∈ o.after, Region.binds .any e = true → e.on < i + k
  | [], i, _, k, o, h => by simp at h
  | x :: l, i, h, k, o, hk => by
    simp only [edgesOk] at h
    split at h
    · rename_i hx
      cases k with
      | zero =>
        simp at hk; subst hk
        intro e he hb
        have := List.all_eq_true.1 hx e (by simpa using he)
        simp [hb, blt_iff] at this
        simpa using this
      | succ k =>
        have := edgesOk_get l (i + 1) h k o (by simpa using hk)
        intro e he hb
        have := this e he hb
        omega
    · cases h
theorem foldl_bits (f : Edge → Nat → Bool) (g : Nat → Edge → Nat) (hg : ∀ s e j, (g s e).testBit j = (s.testBit j || f e j)) : ∀ (l : List Edge) (s j : Nat), (l.foldl g s).testBit j = true → s.testBit j = true ∨ ∃ e ∈ l, f e j = true
  | [], s, j, h => .inl h
  | e :: l, s, j, h => by
    simp only [List.foldl_cons] at h
    rcases foldl_bits f g hg l _ j h with h1 | ⟨e', h1, h2⟩
    · rw [hg, Bool.or_eq_true] at h1
      exact h1.imp id fun h => ⟨e, by simp, h⟩
    · exact .inr ⟨e', by simp [h1], h2⟩
/-- A number's digits: those ahead of it. -/
theorem befores_get : ∀ (l : List Oper) (acc : List Nat) (k : Nat) (o : Oper), l[k]? = some o → ∀ j, Nat.testBit ((nth (befores l acc) (acc.length + k)).getD 0) j = true →
    ∃ e ∈ o.after, Region.binds .any e = true ∧ (j = e.on ∨ (e.on < acc.length + k → Nat.testBit ((nth (befores l acc) e.on).getD 0) j = true)) := by
  have keep : ∀ (l : List Oper) (acc : List Nat) (i : Nat), i < acc.length → (befores l acc)[i]? = acc.reverse[i]? := by
    intro l
    induction l with
    | nil => intro acc i _; rfl
    | cons o l ih =>
      intro acc i hi
      simp only [befores, forceN_eq]
      rw [ih _ i (by simp; omega)]
      rw [List.reverse_cons, List.getElem?_append_left (by simpa using hi)]
  intro l
  induction l with
  | nil => intro acc k o h; simp at h
  | cons x l ih =>
    intro acc k o hk j hj
    cases k with
    | succ k =>
      simp only [befores, forceN_eq] at hj ⊢
      have e1 : acc.length + (k + 1) = (acc.length + 1) + k := by omega
      rw [e1] at hj ⊢
      exact ih _ k o (by simpa using hk) j hj
    | zero =>
      simp at hk; subst hk
      simp only [befores, forceN_eq, Nat.add_zero, nth_eq] at hj ⊢
      rw [keep _ _ _ (by simp)] at hj
      rw [List.reverse_cons, List.getElem?_append_right (by simp)] at hj
      simp only [List.length_reverse, Nat.sub_self, List.getElem?_cons_zero, Option.getD_some] at hj
      have hg : ∀ (s : Nat) (e : Edge) (j : Nat), (match Region.binds .any e with | true => s ||| 2 ^ e.on ||| (acc[lenL acc - 1 - e.on]?).getD 0 | false => s).testBit j =
          (s.testBit j || (Region.binds .any e && (decide (e.on = j) || ((acc[acc.length - 1 - e.on]?).getD 0).testBit j))) := fun s e j => by
        cases hb : Region.binds .any e with
        | false => simp
        | true =>
          simp only [Nat.testBit_or, Nat.testBit_two_pow, lenL_eq, Bool.true_and, Bool.or_assoc]
      rcases foldl_bits (fun e j => Region.binds .any e && (decide (e.on = j) || ((acc[acc.length - 1 - e.on]?).getD 0).testBit j)) _ hg _ _ _ hj with h | ⟨e, he, h⟩
      · simp at h
      · simp only [Bool.and_eq_true, Bool.or_eq_true, decide_eq_true_eq] at h
        refine ⟨e, by simpa using he, h.1, h.2.imp Eq.symm fun h2 hlt => ?_⟩
        rw [keep _ _ _ (by simp; omega)]
        rw [List.reverse_cons, List.getElem?_append_left (by simpa using hlt), List.getElem?_reverse hlt]
        exact h2
theorem tmpsOk_get : ∀ (l : List Oper) (i : Nat), tmpsOk all bs i l = true → ∀ j k o q, j < k → l[j]? = some o → l[k]? = some q → clash all o q = true → Nat.testBit ((nth bs (i + k)).getD 0) (i + j) = true := by
  have one : ∀ (i : Nat) (o : Oper) (l : List Oper) (k : Nat), tmpsOk1 all bs i o k l = true → ∀ m q, l[m]? = some q → clash all o q = true → Nat.testBit ((nth bs (k + m)).getD 0) i = true := by
    intro i o l
    induction l with
    | nil => intro k _ m q h; simp at h
    | cons x l ih =>
      intro k h m q hm hcl
      simp only [tmpsOk1] at h
      have rest : tmpsOk1 all bs i o (k + 1) l = true ∧ (clash all o x = true → Nat.testBit ((nth bs k).getD 0) i = true) := by
        split at h
        · split at h
          · rename_i hb; exact ⟨h, fun _ => hb⟩
          · cases h
        · rename_i hf; exact ⟨h, fun e => by rw [hf] at e; cases e⟩
      cases m with
      | zero => simp at hm; subst hm; simpa using rest.2 hcl
      | succ m =>
        have := ih (k + 1) rest.1 m q (by simpa using hm) hcl
        have e1 : k + (m + 1) = k + 1 + m := by omega
        rw [e1]; exact this
  intro l
  induction l with
  | nil => intro i _ j k o q _ h; simp at h
  | cons x l ih =>
    intro i h j k o q hjk hj hk hcl
    simp only [tmpsOk] at h
    split at h
    · rename_i h1
      cases k with
      | zero => omega
      | succ k =>
        simp only [List.getElem?_cons_succ] at hk
        cases j with
        | zero =>
          simp at hj; subst hj
          have := one i x l (i + 1) h1 k q hk hcl
          have e1 : i + (k + 1) = i + 1 + k := by omega
          rw [e1]; exact this
        | succ j =>
          have := ih (i + 1) h j k o q (by omega) (by simpa using hj) hk hcl
          have e1 : i + (k + 1) = i + 1 + k := by omega
          have e2 : i + (j + 1) = i + 1 + j := by omega
          rw [e1, e2]; exact this
    · cases h
end
end
end Go.Proofs.YtgljampcnbgbhaaGreatDoor.Ev
namespace Go.Proofs.YtgljampcnbgbhaaGreatDoor.Ev
open Go Go.RowKit
noncomputable section

/-- A step inside a wider range of numbers. -/
theorem Ext.step {C : Cx} {ρ ρ1 ρ2 : Ren} {H G G' : Hf} {c0 ce c c' : Nat} {w0 w1 w2 : World} (h : Ext C ρ H c0 w0 ρ1 G ce w1) (k : Ext C ρ1 G c w1 ρ2 G' c' w2)
    (h1 : c0 ≤ c) (h2 : c' ≤ ce) (hd : ∀ b k, H b = some k → ¬ (c ≤ b ∧ b < c')) : Ext C ρ H c0 w0 ρ2 G' ce w2 where
  le := h.le
  ren b hb := by rw [k.ren b (by omega), h.ren b (by omega)]
  size := Nat.le_trans h.size k.size
  old i hi ho := by rw [k.old i (Nat.lt_of_lt_of_le hi h.size) fun hx => ho (h.own i hi hx), h.old i hi ho]
  own i hi ho := h.own i hi (k.own i (Nat.lt_of_lt_of_le hi h.size) ho)
  dom b x hb := by
    rcases k.dom b x hb with ⟨y, hy⟩ | hy
    · exact h.dom b y hy
    · exact .inr (by omega)
  newRo b x hb hc := by
    by_cases h' : c ≤ b ∧ b < c'
    · exact k.newRo b x hb h'
    · rcases k.dom b x hb with ⟨y, hy⟩ | hy
      · rw [k.ro b y x hy hb]; exact h.newRo b y hy hc
      · exact absurd hy h'
  ro b x x' hb hb' := by
    rcases k.dom b x' hb' with ⟨y, hy⟩ | hy
    · rw [k.ro b y x' hy hb', h.ro b x y hb hy]
    · exact (hd b x hb hy).elim
  wr := k.wr
  os := k.os.trans h.os
  tape := k.tape.trans h.tape
  output := k.output.trans h.output

section
variable (C : Cx) (E : Env) (call : Caller) (nt : Nat) (all : List Oper) (bs : List Nat) (X : Nat → Conf)
abbrev pre (i : Nat) : Nat := (nth bs i).getD 0
def Heavy (i : Nat) : Prop := ∃ o, all[i]? = some o ∧ wantF all (X i).T o = some true ∧ clsOf E.P o.op = .x
def New (i : Nat) (b : Blk) : Prop := ∃ o v, all[i]? = some o ∧ wantF all (X i).T o = some true ∧ clsOf E.P o.op = .n ∧ opN E.P (X i).T (X i).c o = some (v, b)
/-- The evaluator's run over a region. -/
structure Run : Prop where
  st : ∀ i o, all[i]? = some o → Stp E call all (pre bs i) i o (X i) (X (i + 1)) ∧ ∀ d, o.dst = some d → d < nt
  edge : ∀ i o, all[i]? = some o → ∀ e ∈ o.after, Region.binds .any e = true → e.on < i
  bits : ∀ i o, all[i]? = some o → ∀ j, Nat.testBit (pre bs i) j = true → ∃ e ∈ o.after, Region.binds .any e = true ∧ (j = e.on ∨ (e.on < i → Nat.testBit (pre bs e.on) j = true))
  tmps : ∀ j k o q, j < k → all[j]? = some o → all[k]? = some q → clash all o q = true → Nat.testBit (pre bs k) j = true
  p0 : (X 0).pend = []
variable {C E call nt all bs X}
section
theorem Run.at (R : Run E call nt all bs X) {i : Nat} (h : i < all.length) : ∃ o, all[i]? = some o ∧ Stp E call all (pre bs i) i o (X i) (X (i + 1)) :=
  ⟨all[i], List.getElem?_eq_getElem h, (R.st i _ (List.getElem?_eq_getElem h)).1⟩
theorem Run.le1 (R : Run E call nt all bs X) {i : Nat} (h : i < all.length) : (X i).c ≤ (X (i + 1)).c := by
  obtain ⟨o, _, s⟩ := R.at h
  cases s <;> omega
theorem Run.le (R : Run E call nt all bs X) {i : Nat} : ∀ {k : Nat}, i ≤ k → k ≤ all.length → (X i).c ≤ (X k).c := by
  intro k
  induction k with
  | zero => intro h _; have : i = 0 := by omega
            subst this; exact Nat.le_refl _
  | succ k ih =>
    intro h hk
    by_cases e : i = k + 1
    · subst e; exact Nat.le_refl _
    · exact Nat.le_trans (ih (by omega) (by omega)) (R.le1 (by omega))
theorem Run.newC (R : Run E call nt all bs X) {i : Nat} {b : Blk} (h : New E all X i b) : (X (i + 1)).c = (X i).c + 1 ∧ i < all.length := by
  obtain ⟨o, v, h1, h2, h3, h4⟩ := h
  have hlt := (List.getElem?_eq_some_iff.1 h1).1
  refine ⟨?_, hlt⟩
  have s := (R.st i o h1).1
  cases s with
  | n v b hw hk hv ht hB hc => exact hc
  | s hw => rw [h2] at hw; cases hw
  | p v hw hk => rw [h3] at hk; cases hk
  | l v hw hk => rw [h3] at hk; cases hk
  | x v hw hk => rw [h3] at hk; cases hk
theorem Run.pend (R : Run E call nt all bs X) : ∀ {k : Nat}, k ≤ all.length → ∀ i id b, (i, id, b) ∈ (X k).pend → i < k ∧ id = (X i).c ∧ New E all X i b ∧ ∀ h, Heavy E all X h → h < k → h < i := by
  intro k
  induction k with
  | zero => intro _ i id b h; rw [R.p0] at h; cases h
  | succ k ih =>
    intro hk i id b h
    obtain ⟨o, ho, s⟩ := R.at (i := k) (by omega)
    have same : (X (k + 1)).pend = (X k).pend → (¬ Heavy E all X k) → i < k + 1 ∧ id = (X i).c ∧ New E all X i b ∧ ∀ h, Heavy E all X h → h < k + 1 → h < i := fun e hn => by
      rw [e] at h
      obtain ⟨q1, q2, q3, q4⟩ := ih (by omega) i id b h
      refine ⟨by omega, q2, q3, fun x hx hlt => ?_⟩
      by_cases e : x = k
      · subst e; exact (hn hx).elim
      · exact q4 x hx (by omega)
    cases s with
    | s hw _ _ _ hp => exact same hp fun ⟨o', h1, h2, _⟩ => by rw [ho] at h1; cases h1; rw [hw] at h2; cases h2
    | p v hw hk' _ _ _ _ hp => exact same hp fun ⟨o', h1, h2, h3⟩ => by rw [ho] at h1; cases h1; rw [hk'] at h3; cases h3
    | l v hw hk' _ _ _ _ _ hp => exact same hp fun ⟨o', h1, h2, h3⟩ => by rw [ho] at h1; cases h1; rw [hk'] at h3; cases h3
    | x v hw hk' _ _ _ _ _ _ hp => rw [hp] at h; cases h
    | n v b' hw hk' hv _ _ _ hp =>
      rw [hp, List.mem_append] at h
      rcases h with h | h
      · obtain ⟨q1, q2, q3, q4⟩ := ih (by omega) i id b h
        refine ⟨by omega, q2, q3, fun x hx hlt => ?_⟩
        by_cases e : x = k
        · subst e; obtain ⟨o', h1, h2, h3⟩ := hx; rw [ho] at h1; cases h1; rw [hk'] at h3; cases h3
        · exact q4 x hx (by omega)
      · simp only [List.mem_singleton, Prod.mk.injEq] at h
        obtain ⟨rfl, rfl, rfl⟩ := h
        refine ⟨by omega, rfl, ⟨o, v, ho, hw, hk', hv⟩, fun x hx hlt => ?_⟩
        by_cases e : x = i
        · subst e; obtain ⟨o', h1, h2, h3⟩ := hx; rw [ho] at h1; cases h1; rw [hk'] at h3; cases h3
        · omega
theorem Run.hist (R : Run E call nt all bs X) : ∀ {k : Nat}, k ≤ all.length → ∀ h, h < k → Heavy E all X h → (h, (X h).B, (X h).pend) ∈ (X k).hist := by
  intro k
  induction k with
  | zero => intro _ h hl; omega
  | succ k ih =>
    intro hk h hl hh
    obtain ⟨o, ho, s⟩ := R.at (i := k) (by omega)
    have same : (X (k + 1)).hist = (X k).hist → (¬ Heavy E all X k) → (h, (X h).B, (X h).pend) ∈ (X (k + 1)).hist := fun e hn => by
      rw [e]
      by_cases e : h = k
      · subst e; exact (hn hh).elim
      · exact ih (by omega) h (by omega) hh
    cases s with
    | s hw _ _ _ _ hp => exact same hp fun ⟨o', h1, h2, _⟩ => by rw [ho] at h1; cases h1; rw [hw] at h2; cases h2
    | p v hw hk' _ _ _ _ _ hp => exact same hp fun ⟨o', h1, h2, h3⟩ => by rw [ho] at h1; cases h1; rw [hk'] at h3; cases h3
    | l v hw hk' _ _ _ _ _ _ hp => exact same hp fun ⟨o', h1, h2, h3⟩ => by rw [ho] at h1; cases h1; rw [hk'] at h3; cases h3
    | n v b hw hk' _ _ _ _ _ hp => exact same hp fun ⟨o', h1, h2, h3⟩ => by rw [ho] at h1; cases h1; rw [hk'] at h3; cases h3
    | x v hw hk' _ _ _ _ _ _ _ hp =>
      rw [hp]
      by_cases e : h = k
      · subst e; simp
      · exact List.mem_cons_of_mem _ (ih (by omega) h (by omega) hh)
theorem Run.reads (R : Run E call nt all bs X) : ∀ {k : Nat}, k ≤ all.length → ∀ j o v, j < k → all[j]? = some o → wantF all (X j).T o = some true → clsOf E.P o.op = .l → opV E.P (X j).T (hp (pre bs j) (X j).pend (X j).B) o = some v → (j, o, (X j).T, v) ∈ (X k).reads := by
  intro k
  induction k with
  | zero => intro _ h _ _ hl; omega
  | succ k ih =>
    intro hk j o v hl g1 g2 g3 g4
    obtain ⟨o', ho, s⟩ := R.at (i := k) (by omega)
    have same : (X (k + 1)).reads = (X k).reads → (j = k → False) → (j, o, (X j).T, v) ∈ (X (k + 1)).reads := fun e hn => by
      rw [e]
      by_cases e : j = k
      · exact (hn e).elim
      · exact ih (by omega) j o v (by omega) g1 g2 g3 g4
    cases s with
    | s hw _ _ _ _ _ hp => exact same hp fun e => by subst e; rw [ho] at g1; cases g1; rw [hw] at g2; cases g2
    | p v hw hk' _ _ _ _ _ _ hp => exact same hp fun e => by subst e; rw [ho] at g1; cases g1; rw [hk'] at g3; cases g3
    | n v b hw hk' _ _ _ _ _ _ hp => exact same hp fun e => by subst e; rw [ho] at g1; cases g1; rw [hk'] at g3; cases g3
    | x v hw hk' _ _ _ _ _ _ _ _ hp => exact same hp fun e => by subst e; rw [ho] at g1; cases g1; rw [hk'] at g3; cases g3
    | l v' hw hk' hv _ _ _ _ _ _ hp =>
      rw [hp]
      by_cases e : j = k
      · subst e; rw [ho] at g1; cases g1; rw [hv] at g4; cases g4; simp
      · exact List.mem_cons_of_mem _ (ih (by omega) j o v (by omega) g1 g2 g3 g4)
theorem Run.base (R : Run E call nt all bs X) {i : Nat} : ∀ {k : Nat}, i ≤ k → k ≤ all.length → (∀ h, Heavy E all X h → i ≤ h → ¬ h < k) → (X k).B = (X i).B := by
  intro k
  induction k with
  | zero => intro h _ _; have : i = 0 := by omega
            subst this; rfl
  | succ k ih =>
    intro h hk hn
    by_cases e : i = k + 1
    · subst e; rfl
    · obtain ⟨o, ho, s⟩ := R.at (i := k) (by omega)
      rw [← ih (by omega) (by omega) fun x hx hi hl => hn x hx hi (by omega)]
      cases s with
      | s _ _ hB => exact hB
      | p _ _ _ _ _ hB => exact hB
      | l _ _ _ _ _ _ hB => exact hB
      | n _ _ _ _ _ _ hB => exact hB
      | x v hw hk' => exact (hn k ⟨o, ho, hw, hk'⟩ (by omega) (by omega)).elim
theorem Run.putAt (R : Run E call nt all bs X) {i : Nat} (h : i < all.length) : ∃ o v, all[i]? = some o ∧ (X (i + 1)).T = putT o.dst v (X i).T := by
  obtain ⟨o, ho, s⟩ := R.at h
  cases s with
  | s _ ht => exact ⟨o, _, ho, ht⟩
  | p _ _ _ _ ht => exact ⟨o, _, ho, ht⟩
  | l _ _ _ _ _ ht => exact ⟨o, _, ho, ht⟩
  | n _ _ _ _ _ ht => exact ⟨o, _, ho, ht⟩
  | x _ _ _ _ _ _ _ _ ht => exact ⟨o, _, ho, ht⟩
theorem Run.temp (R : Run E call nt all bs X) {i t : Nat} : ∀ {k : Nat}, i ≤ k → k ≤ all.length → (∀ j o, i ≤ j → j < k → all[j]? = some o → o.dst ≠ some t) → (X k).T.get t = (X i).T.get t := by
  intro k
  induction k with
  | zero => intro h _ _; have : i = 0 := by omega
            subst this; rfl
  | succ k ih =>
    intro h hk hn
    by_cases e : i = k + 1
    · subst e; rfl
    · obtain ⟨o, v, ho, hT⟩ := R.putAt (i := k) (by omega)
      rw [← ih (by omega) (by omega) fun j o hj hl => hn j o hj (by omega), hT]
      have := hn k o (by omega) (by omega) ho
      cases hd : o.dst with
      | none => rfl
      | some d =>
        simp only [putT, Tr.get_set]
        rw [if_neg fun e => this (by rw [hd, e])]
end

variable (C E nt all bs X) in
def Cut (D : Nat → Prop) (k : Nat) : Prop := (∀ h, Heavy E all X h → h < k → D h) ∧ (∀ h, Heavy E all X h → k ≤ h → ¬ D h)
variable (C E nt all bs X) in
structure Inv (ρ0 : Ren) (H0 : Hf) (c0 : Nat) (w0 : World) (ds : List Deferred) (D : Nat → Prop) (ρ : Ren) (G : Hf) (a : Act) (w : World) : Prop where
  closed : ∀ i, D i → ∀ j, Nat.testBit (pre bs i) j = true → D j
  tmps : ∀ t k v, k ≤ all.length → (∀ i o, i < k → all[i]? = some o → o.dst = some t → D i) → (∀ i o, k ≤ i → all[i]? = some o → o.dst = some t → ¬ D i) → (X k).T.get t = some v → VR C ρ v (a.tmps.getD t undef)
  size : nt ≤ a.tmps.size
  defers : a.defers = ds
  ext : Ext C ρ0 H0 c0 w0 ρ G (X all.length).c w
  know1 : ∀ k, k ≤ all.length → Cut E all X D k → ∀ b x, (X k).B.get b = some x → G b = some x
  dom1 : ∀ k, k ≤ all.length → Cut E all X D k → ∀ b x, (X k).B.get b = some x → (∃ y, H0 b = some y) ∨ (c0 ≤ b ∧ b < (X k).c)
  know2 : ∀ i b, D i → New E all X i b → (∀ h, Heavy E all X h → D h → h < i) → G (X i).c = some b
  fresh : ∀ i, i < all.length → ¬ D i → Fresh ρ (X i).c (X (i + 1)).c
end
end
end Go.Proofs.YtgljampcnbgbhaaGreatDoor.Ev
namespace Go.Proofs.YtgljampcnbgbhaaGreatDoor.Ev
open Go Go.RowKit

section
variable {C : Cx} {E : Env} {call : Caller} {nt : Nat} {all : List Oper} {bs : List Nat} {X : Nat → Conf} {ρ0 : Ren} {H0 : Hf} {c0 : Nat} {w0 : World} {ds : List Deferred}
  {D : Nat → Prop} {ρ : Ren} {G : Hf} {a : Act} {w : World}
theorem clash_dst {o p : Oper} {t : Nat} (h : p.dst = some t) (ht : touches all o t = true) : clash all o p = true := by
  simp [clash, h, ht]
theorem clash_dst' {o p : Oper} {t : Nat} (h : o.dst = some t) (ht : touches all p t = true) : clash all o p = true := by
  simp [clash, h, ht]
theorem touches_dst {o : Oper} {t : Nat} (h : o.dst = some t) : touches all o t = true := by
  simp [touches, h, beq_iff]
theorem touches_opd {o : Oper} {t : Nat} (h : Operand.tmp t ∈ o.op.operands) : touches all o t = true := by
  simp only [touches, Bool.or_eq_true]
  exact .inl (.inr (List.any_eq_true.2 ⟨_, by simpa using h, by simp [isTmp, beq_iff]⟩))
theorem touches_guard {o p : Oper} {j t : Nat} {want : Bool} (h : o.guard = some (j, want)) (hj : all[j]? = some p) (hd : p.dst = some t) : touches all o t = true := by
  simp only [touches, Bool.or_eq_true]
  refine .inr ?_
  simp [h, hj, hd, beq_iff]

theorem Inv.touch (R : Run E call nt all bs X) (I : Inv C E nt all bs X ρ0 H0 c0 w0 ds D ρ G a w) {j : Nat} {o : Oper} (hj : all[j]? = some o) (hn : ¬ D j) (hp : ∀ i, Nat.testBit (pre bs j) i = true → D i)
    {t : Nat} {v : Value} (ht : touches all o t = true) (hv : (X j).T.get t = some v) : VR C ρ v (a.tmps.getD t undef) := by
  refine I.tmps t j v (Nat.le_of_lt (List.getElem?_eq_some_iff.1 hj).1) (fun i q hi hq hd => hp i (R.tmps i j q o hi hq hj (clash_dst' hd ht))) (fun i q hi hq hd hD => ?_) hv
  by_cases e : i = j
  · subst e; exact hn hD
  · exact hn (I.closed i hD j (R.tmps j i o q (by omega) hj hq (clash_dst hd ht)))
theorem Inv.opd (R : Run E call nt all bs X) (I : Inv C E nt all bs X ρ0 H0 c0 w0 ds D ρ G a w) (hG : Glob ρ) {j : Nat} {o : Oper} (hj : all[j]? = some o) (hn : ¬ D j) (hp : ∀ i, Nat.testBit (pre bs j) i = true → D i) :
    ∀ x ∈ o.op.operands, OR C ρ (X j).T a x := by
  intro x hx
  cases x with
  | tmp t => exact fun v hv => I.touch R hj hn hp (touches_opd hx) hv
  | const u =>
    have hs : SR C ρ 0 a.defers .e a := ⟨(fun t v h => by rw [Tr.get_e] at h; cases h), Nat.zero_le _, rfl⟩
    exact hs.opd hG (.const u)
  | global g =>
    have hs : SR C ρ 0 a.defers .e a := ⟨(fun t v h => by rw [Tr.get_e] at h; cases h), Nat.zero_le _, rfl⟩
    exact hs.opd hG (.global g)
  | func f =>
    have hs : SR C ρ 0 a.defers .e a := ⟨(fun t v h => by rw [Tr.get_e] at h; cases h), Nat.zero_le _, rfl⟩
    exact hs.opd hG (.func f)
theorem Inv.want (hC : C.Good) {ops : Array Oper} (hall : all = ops.toList) (R : Run E call nt all bs X) (I : Inv C E nt all bs X ρ0 H0 c0 w0 ds D ρ G a w) {j : Nat} {o : Oper} (hj : all[j]? = some o) (hn : ¬ D j) (hp : ∀ i, Nat.testBit (pre bs j) i = true → D i)
    {b : Bool} (h : wantF all (X j).T o = some b) : Region.wanted o (yielded ops a.tmps) = b := by
  subst hall
  exact wantF_sound (C := C) (ρ := ρ) hC h fun i want p d v hg hi hd hv => I.touch R hj hn hp (touches_guard hg (by simpa using hi) hd) hv
/-- The temporaries behind a step. -/
theorem Inv.putTmps (R : Run E call nt all bs X) (I : Inv C E nt all bs X ρ0 H0 c0 w0 ds D ρ G a w) {j : Nat} {o : Oper} (hj : all[j]? = some o) (hn : ¬ D j)
    {ρ' : Ren} (hs : Sub ρ ρ') {v v' : Value} (ht : (X (j + 1)).T = putT o.dst v (X j).T) (hv : VR C ρ' v v') :
    ∀ t k u, k ≤ all.length → (∀ i q, i < k → all[i]? = some q → q.dst = some t → i = j ∨ D i) → (∀ i q, k ≤ i → all[i]? = some q → q.dst = some t → ¬ (i = j ∨ D i)) → (X k).T.get t = some u → VR C ρ' u ((a.put o.dst v').tmps.getD t undef) := by
  intro t k u hk h1 h2 hu
  have hd := (R.st j o hj).2
  have hjl := (List.getElem?_eq_some_iff.1 hj).1
  by_cases e : o.dst = some t
  · have hjk : j < k := by
      apply Classical.byContradiction; intro hc
      exact h2 j o (by omega) hj e (.inl rfl)
    have hT := R.temp (i := j + 1) (k := k) (t := t) (by omega) hk fun i q hi hl hq hqd => by
      have hi' := h1 i q hl hq hqd
      have : D i := by rcases hi' with e | h; · omega
                       · exact h
      exact hn (I.closed i this j (R.tmps j i o q (by omega) hj hq (clash_dst hqd (touches_dst e))))
    rw [hT, ht, e] at hu
    simp only [putT, Tr.get_set, if_true, Option.some.injEq] at hu
    subst hu
    have hlt : t < a.tmps.size := Nat.lt_of_lt_of_le (hd t e) I.size
    have : (a.put o.dst v').tmps.getD t undef = v' := by
      rw [e]
      show (a.tmps.setIfInBounds t v').getD t undef = v'
      simp [Array.getD_eq_getD_getElem?, hlt]
    rw [this]; exact hv
  · have : (a.put o.dst v').tmps.getD t undef = a.tmps.getD t undef := by
      cases hdd : o.dst with
      | none => rfl
      | some d =>
        show (a.tmps.setIfInBounds d v').getD t undef = _
        simp only [Array.getD_eq_getD_getElem?]
        rw [Array.getElem?_setIfInBounds_ne (fun h => e (by rw [hdd, h]))]
    rw [this]
    refine (I.tmps t k u hk (fun i q hi hq hqd => ?_) (fun i q hi hq hqd hD => h2 i q hi hq hqd (.inr hD)) hu).mono hs
    rcases h1 i q hi hq hqd with e' | h
    · subst e'; rw [hj] at hq; cases hq; exact (e hqd).elim
    · exact h
theorem put_size (a : Act) (d : Option Tmp) (v : Value) : (a.put d v).tmps.size = a.tmps.size := by cases d <;> simp [Act.put]
theorem put_defers (a : Act) (d : Option Tmp) (v : Value) : (a.put d v).defers = a.defers := by cases d <;> rfl
theorem Cut.less {j k : Nat} (hh : ¬ Heavy E all X j) (h : Cut E all X (fun i => i = j ∨ D i) k) : Cut E all X D k :=
  ⟨fun x hx hl => (h.1 x hx hl).resolve_left fun e => hh (e ▸ hx), fun x hx hl hD => h.2 x hx hl (.inr hD)⟩
theorem closed_put {j : Nat} (hc : ∀ i, D i → ∀ j, Nat.testBit (pre bs i) j = true → D j) (hp : ∀ i, Nat.testBit (pre bs j) i = true → D i) :
    ∀ i, (i = j ∨ D i) → ∀ x, Nat.testBit (pre bs i) x = true → (x = j ∨ D x) := fun i hi x hx => by
  rcases hi with e | hi
  · subst e; exact .inr (hp x hx)
  · exact .inr (hc i hi x hx)
/-- A step that leaves memory. -/
theorem Inv.quiet (R : Run E call nt all bs X) (I : Inv C E nt all bs X ρ0 H0 c0 w0 ds D ρ G a w) {j : Nat} {o : Oper} (hj : all[j]? = some o) (hn : ¬ D j) (hp : ∀ i, Nat.testBit (pre bs j) i = true → D i)
    {v v' : Value} (ht : (X (j + 1)).T = putT o.dst v (X j).T) (hv : VR C ρ v v') (hh : ¬ Heavy E all X j) (hN : ∀ b, ¬ New E all X j b) : Inv C E nt all bs X ρ0 H0 c0 w0 ds (fun i => i = j ∨ D i) ρ G (a.put o.dst v') w where
  closed := closed_put I.closed hp
  tmps := I.putTmps R hj hn (Sub.refl ρ) ht hv
  size := by rw [put_size]; exact I.size
  defers := by rw [put_defers]; exact I.defers
  ext := I.ext
  know1 k hk hc := I.know1 k hk (hc.less hh)
  dom1 k hk hc := I.dom1 k hk (hc.less hh)
  know2 i b hi hb hx := I.know2 i b (hi.resolve_left fun e => hN b (e ▸ hb)) hb fun h hh' hD => hx h hh' (.inr hD)
  fresh i hi hD := I.fresh i hi fun h => hD (.inr h)
/-- A step that makes a block. -/
theorem Inv.made (R : Run E call nt all bs X) (I : Inv C E nt all bs X ρ0 H0 c0 w0 ds D ρ G a w) (hX0 : c0 = (X 0).c) (hd0 : ∀ b k, H0 b = some k → ¬ (c0 ≤ b ∧ b < (X all.length).c)) {j : Nat} {o : Oper} (hj : all[j]? = some o) (hn : ¬ D j) (hp : ∀ i, Nat.testBit (pre bs j) i = true → D i)
    {v v' : Value} {b : Blk} {pl : Pl} {w' : World} (ht : (X (j + 1)).T = putT o.dst v (X j).T) (hh : ¬ Heavy E all X j) (hN : New E all X j b)
    (hv : VR C (upd ρ (X j).c pl) v v') (he : Ext C ρ G (X j).c w (upd ρ (X j).c pl) (setH G (X j).c (some b)) ((X j).c + 1) w') :
    Inv C E nt all bs X ρ0 H0 c0 w0 ds (fun i => i = j ∨ D i) (upd ρ (X j).c pl) (setH G (X j).c (some b)) (a.put o.dst v') w' := by
  obtain ⟨hcc, hlt⟩ := R.newC hN
  have hfr := I.fresh j hlt hn
  have hρ : ρ (X j).c = none := hfr _ (Nat.le_refl _) (by omega)
  have hg : ∀ x, G (X j).c = some x → False := fun x hx => by
    obtain ⟨q, hq, _⟩ := (I.ext.wr.br _ _ hx).place
    rw [hρ] at hq; cases hq
  have h1 := R.le (i := 0) (k := j) (by omega) (by omega)
  have h2 := R.le (i := j + 1) (k := all.length) (by omega) (by omega)
  refine ⟨closed_put I.closed hp, I.putTmps R hj hn (upd_sub hρ) ht hv, by rw [put_size]; exact I.size, by rw [put_defers]; exact I.defers,
    I.ext.step he (by omega) (by omega) (fun x k hx hc => hd0 x k hx (by omega)), fun k hk hc x y hx => ?_, fun k hk hc => I.dom1 k hk (hc.less hh), fun i y hi hy hx => ?_, fun i hi hD x hx1 hx2 => ?_⟩
  · have := I.know1 k hk (hc.less hh) x y hx
    unfold setH
    rw [if_neg (by intro e; rw [e] at this; exact hg y this)]; exact this
  · by_cases e : i = j
    · subst e
      obtain ⟨o1, v1, a1, a2, a3, a4⟩ := hy
      obtain ⟨o2, v2, b1, b2, b3, b4⟩ := hN
      rw [a1] at b1; cases b1; rw [a4] at b4; cases b4
      unfold setH; rw [if_pos rfl]
    · have hi' := hi.resolve_left e
      have := I.know2 i y hi' hy fun h hh' hD => hx h hh' (.inr hD)
      unfold setH
      rw [if_neg (by intro e; rw [e] at this; exact hg y this)]; exact this
  · have hne : i ≠ j := fun e => hD (.inl e)
    rw [upd_ne]
    · exact I.fresh i hi (fun h => hD (.inr h)) x hx1 hx2
    · intro e
      subst e
      by_cases h : i < j
      · have := R.le (i := i + 1) (k := j) (by omega) (by omega); omega
      · have := R.le (i := j + 1) (k := i) (by omega) (by omega); omega
/-- Where a heavy step may stand. -/
theorem Inv.cutAt (R : Run E call nt all bs X) (I : Inv C E nt all bs X ρ0 H0 c0 w0 ds D ρ G a w) {j : Nat} {o : Oper} (hj : all[j]? = some o) (hn : ¬ D j) (hp : ∀ i, Nat.testBit (pre bs j) i = true → D i)
    (hx : Heavy E all X j) : Cut E all X D j := by
  have ahead : ∀ i k, i < k → Heavy E all X i → Heavy E all X k → Nat.testBit (pre bs k) i = true := fun i k hik hi hk => by
    obtain ⟨o', h1, h2, h3⟩ := hk
    have hl := (List.getElem?_eq_some_iff.1 h1).1
    have s := (R.st k o' h1).1
    cases s with
    | x v hw hk' q1 q2 => exact histIn_mem q2 _ _ _ (R.hist (by omega) i hik hi)
    | s hw => rw [hw] at h2; cases h2
    | p v hw hk' => rw [hk'] at h3; cases h3
    | l v hw hk' => rw [hk'] at h3; cases h3
    | n v b hw hk' => rw [hk'] at h3; cases h3
  refine ⟨fun h hh hl => hp h (ahead h j hl hh hx), fun h hh hl hD => ?_⟩
  by_cases e : h = j
  · subst e; exact hn hD
  · exact hn (I.closed h hD j (ahead j h (by omega) hx hh))
/-- Behind a heavy step. -/
theorem Inv.turned (R : Run E call nt all bs X) (I : Inv C E nt all bs X ρ0 H0 c0 w0 ds D ρ G a w) (hX0 : c0 = (X 0).c) (hd0 : ∀ b k, H0 b = some k → ¬ (c0 ≤ b ∧ b < (X all.length).c)) {j : Nat} {o : Oper} (hj : all[j]? = some o) (hn : ¬ D j) (hp : ∀ i, Nat.testBit (pre bs j) i = true → D i)
    {v v' : Value} {ρ' : Ren} {w' : World} (ht : (X (j + 1)).T = putT o.dst v (X j).T) (hx : Heavy E all X j)
    (hv : VR C ρ' v v') (he : Ext C ρ (hA (X j).pend (X j).B).get (X j).c w ρ' (X (j + 1)).B.get (X (j + 1)).c w') :
    (∀ b k, (hA (X j).pend (X j).B).get b = some k → G b = some k) →
    Inv C E nt all bs X ρ0 H0 c0 w0 ds (fun i => i = j ∨ D i) ρ' (over (hA (X j).pend (X j).B).get (X (j + 1)).B.get G (X j).c (X (j + 1)).c) (a.put o.dst v') w' := by
  intro hAG
  have hlt := (List.getElem?_eq_some_iff.1 hj).1
  have hfr := I.fresh j hlt hn
  have hcut := I.cutAt R hj hn hp hx
  have h1 := R.le (i := 0) (k := j) (by omega) (by omega)
  have h2 := R.le (i := j + 1) (k := all.length) (by omega) (by omega)
  have h3 := R.le1 hlt
  have hfrm := he.frame hfr I.ext.wr hAG
  -- the numbers of what it found
  have domA : ∀ b k, (hA (X j).pend (X j).B).get b = some k → (∃ y, H0 b = some y) ∨ (c0 ≤ b ∧ b < (X j).c) := fun b k hb => by
    rcases hA_get _ _ _ _ hb with h | ⟨i, h⟩
    · exact I.dom1 j (by omega) hcut b k h
    · obtain ⟨q1, q2, q3, _⟩ := R.pend (by omega) i b k h
      obtain ⟨q4, q5⟩ := R.newC q3
      have := R.le (i := 0) (k := i) (by omega) (by omega)
      have := R.le (i := i + 1) (k := j) (by omega) (by omega)
      right; omega
  have cutK : ∀ k, k ≤ all.length → Cut E all X (fun i => i = j ∨ D i) k → j < k ∧ (X k).B = (X (j + 1)).B := fun k hk hc => by
    have hjk : j < k := by
      apply Classical.byContradiction; intro h
      exact hc.2 j hx (by omega) (.inl rfl)
    refine ⟨hjk, R.base (by omega) hk fun h hh hl hlk => ?_⟩
    have := (hc.1 h hh hlk).resolve_left (by omega)
    exact hcut.2 h hh (by omega) this
  refine ⟨closed_put I.closed hp, I.putTmps R hj hn (he.sub hfr) ht hv, by rw [put_size]; exact I.size, by rw [put_defers]; exact I.defers,
    I.ext.step hfrm (by omega) (by omega) (fun x k hx hc => hd0 x k hx (by omega)), fun k hk hc x y hxy => ?_, fun k hk hc x y hxy => ?_, fun i y hi hy hxx => ?_, fun i hi hD x hx1 hx2 => ?_⟩
  · obtain ⟨_, e⟩ := cutK k hk hc
    rw [e] at hxy
    unfold over
    rw [if_pos]; · exact hxy
    rcases he.dom x y hxy with ⟨z, hz⟩ | h
    · left; rw [hz]; rfl
    · exact .inr h
  · obtain ⟨hjk, e⟩ := cutK k hk hc
    rw [e] at hxy
    have := R.le (i := j + 1) (k := k) (by omega) hk
    rcases he.dom x y hxy with ⟨z, hz⟩ | h
    · rcases domA x z hz with h | h
      · exact .inl h
      · right; omega
    · right; omega
  · have hji := hxx j hx (.inl rfl)
    obtain ⟨q4, q5⟩ := R.newC hy
    have l1 := R.le (i := j + 1) (k := i) (by omega) (by omega)
    have l2 := R.le (i := i + 1) (k := all.length) (by omega) (by omega)
    have := I.know2 i y (hi.resolve_left (by omega)) hy fun h hh' hD => hxx h hh' (.inr hD)
    unfold over
    rw [if_neg]; · exact this
    rintro (h | h)
    · cases hz : (hA (X j).pend (X j).B).get (X i).c with
      | none => rw [hz] at h; cases h
      | some z =>
        rcases domA _ z hz with ⟨y, h⟩ | h
        · exact hd0 _ y h (by omega)
        · omega
    · omega
  · have hne : i ≠ j := fun e => hD (.inl e)
    rw [hfrm.ren x ?_]
    · exact I.fresh i hi (fun h => hD (.inr h)) x hx1 hx2
    · intro e
      by_cases h : i < j
      · have := R.le (i := i + 1) (k := j) (by omega) (by omega); omega
      · have := R.le (i := j + 1) (k := i) (by omega) (by omega); omega
end
end Go.Proofs.YtgljampcnbgbhaaGreatDoor.Ev
namespace Go.Proofs.YtgljampcnbgbhaaGreatDoor.Ev
open Go Go.RowKit

section
variable {C : Cx} {E : Env} {call : Caller} {nt : Nat} {bs : List Nat} {X : Nat → Conf} {ρ0 : Ren} {H0 : Hf} {c0 : Nat} {w0 : World} {ds : List Deferred} {ops : Array Oper}
  {D : Nat → Prop} {ρ : Ren} {G : Hf} {a : Act} {w : World}
theorem last_of {p : Nat → Prop} : ∀ (n : Nat), (∃ k, k < n ∧ p k) → ∃ k, k < n ∧ p k ∧ ∀ i, i < n → p i → i ≤ k := by
  intro n
  induction n with
  | zero => rintro ⟨k, hk, _⟩; omega
  | succ n ih =>
    rintro ⟨k, hk, hpk⟩
    by_cases h : p n
    · exact ⟨n, by omega, h, fun i hi _ => by omega⟩
    · have hkn : k ≠ n := fun e => h (e ▸ hpk)
      obtain ⟨m, h1, h2, h3⟩ := ih ⟨k, by omega, hpk⟩
      refine ⟨m, by omega, h2, fun i hi hpi => ?_⟩
      have : i ≠ n := fun e => h (e ▸ hpi)
      exact h3 i (by omega) hpi
theorem first_of {p : Nat → Prop} : ∀ (n : Nat), (∃ k, k < n ∧ p k) → ∃ k, k < n ∧ p k ∧ ∀ i, i < k → ¬ p i := by
  intro n
  induction n with
  | zero => rintro ⟨k, hk, _⟩; omega
  | succ n ih =>
    rintro ⟨k, hk, hpk⟩
    by_cases h : ∃ i, i < n ∧ p i
    · obtain ⟨m, h1, h2, h3⟩ := ih h
      exact ⟨m, by omega, h2, h3⟩
    · exact ⟨k, hk, hpk, fun i hi hpi => h ⟨i, by omega, hpi⟩⟩
theorem heavy_lt {i : Nat} (h : Heavy E ops.toList X i) : i < ops.toList.length := by
  obtain ⟨o, h1, _⟩ := h
  exact (List.getElem?_eq_some_iff.1 h1).1
/-- What is read is known, whatever has been done so far. -/
theorem Inv.read (R : Run E call nt ops.toList bs X) (I : Inv C E nt ops.toList bs X ρ0 H0 c0 w0 ds D ρ G a w) {j : Nat} {o : Oper} (hj : ops.toList[j]? = some o) (hn : ¬ D j) (hp1 : ∀ i, Nat.testBit (pre bs j) i = true → D i)
    {v : Value} (hw : wantF ops.toList (X j).T o = some true) (hk : clsOf E.P o.op = .l) (hv : opV E.P (X j).T (hp (pre bs j) (X j).pend (X j).B) o = some v) (ho : histOk E (pre bs j) o (X j).T v (X j).hist = true) :
    ∃ A : Heap, (∀ b k, A.get b = some k → G b = some k) ∧ opV E.P (X j).T A o = some v := by
  have hjl := (List.getElem?_eq_some_iff.1 hj).1
  have hnj : ¬ Heavy E ops.toList X j := fun ⟨o', h1, h2, h3⟩ => by rw [hj] at h1; cases h1; rw [hk] at h3; cases h3
  have ahead : ∀ i k, i < k → Heavy E ops.toList X i → Heavy E ops.toList X k → Nat.testBit (pre bs k) i = true := fun i k hik hi hk' => by
    have hl := heavy_lt hk'
    obtain ⟨o', h1, h2, h3⟩ := hk'
    have s := (R.st k o' h1).1
    cases s with
    | x v hw hk' q1 q2 => exact histIn_mem q2 _ _ _ (R.hist (by omega) i hik hi)
    | s hw => rw [hw] at h2; cases h2
    | p v hw hk' => rw [hk'] at h3; cases h3
    | l v hw hk' => rw [hk'] at h3; cases h3
    | n v b hw hk' => rw [hk'] at h3; cases h3
  -- ahead of the heavy one at k, or at the reading itself
  have at_ : ∀ k, k ≤ j → Cut E ops.toList X D k → opV E.P (X j).T (hp (pre bs j) (X k).pend (X k).B) o = some v → ∃ A : Heap, (∀ b k, A.get b = some k → G b = some k) ∧ opV E.P (X j).T A o = some v := fun k hkj hc hvk => by
    refine ⟨_, fun b x hb => ?_, hvk⟩
    rcases hp_get _ _ _ _ _ hb with h | ⟨i, h, ht⟩
    · exact I.know1 k (by omega) hc b x h
    · obtain ⟨q1, q2, q3, q4⟩ := R.pend (k := k) (by omega) i b x h
      rw [q2]
      refine I.know2 i x (hp1 i ht) q3 fun y hy hD => q4 y hy ?_
      apply Classical.byContradiction; intro hc2
      exact hc.2 y hy (by omega) hD
  by_cases hlate : ∃ k, k < ops.toList.length ∧ (j < k ∧ Heavy E ops.toList X k ∧ D k)
  · -- a later one has been done
    obtain ⟨k, hkl, ⟨hjk, hkh, hkD⟩, hmax⟩ := last_of _ hlate
    have hcut : Cut E ops.toList X D (k + 1) := ⟨fun h hh hl => by
      by_cases e : h = k
      · subst e; exact hkD
      · exact I.closed k hkD h (ahead h k (by omega) hh hkh), fun h hh hl hD => by
      have := hmax h (heavy_lt hh) ⟨by omega, hh, hD⟩
      omega⟩
    obtain ⟨o', h1, h2, h3⟩ := hkh
    have s := (R.st k o' h1).1
    have hro : readsOk E (pre bs k) (X (k + 1)).B (X k).reads = true := by
      cases s with
      | x v hw hk' q1 q2 q3 q4 => exact q4
      | s hw => rw [hw] at h2; cases h2
      | p v hw hk' => rw [hk'] at h3; cases h3
      | l v hw hk' => rw [hk'] at h3; cases h3
      | n v b hw hk' => rw [hk'] at h3; cases h3
    refine ⟨(X (k + 1)).B, fun b x hb => I.know1 (k + 1) (by omega) hcut b x hb, ?_⟩
    refine readsOk_mem hro j o _ v (R.reads (by omega) j o v hjk hj hw hk hv) ?_
    cases ht : Nat.testBit (pre bs k) j with
    | false => rfl
    | true => exact (hn (I.closed k hkD j ht)).elim
  · have none_late : ∀ h, Heavy E ops.toList X h → j ≤ h → ¬ D h := fun h hh hl hD => by
      by_cases e : h = j
      · subst e; exact hnj hh
      · exact hlate ⟨h, heavy_lt hh, by omega, hh, hD⟩
    by_cases hearly : ∃ k, k < j ∧ (Heavy E ops.toList X k ∧ ¬ D k)
    · obtain ⟨k, hkj, ⟨hkh, hkD⟩, hmin⟩ := first_of _ hearly
      have hcut : Cut E ops.toList X D k := ⟨fun h hh hl => by
        apply Classical.byContradiction; intro hD; exact hmin h hl ⟨hh, hD⟩, fun h hh hl hD => by
        by_cases e : h = k
        · subst e; exact hkD hD
        · exact hkD (I.closed h hD k (ahead k h (by omega) hkh hh))⟩
      refine at_ k (by omega) hcut (histOk_mem ho k _ _ (R.hist (by omega) k hkj hkh) ?_)
      cases ht : Nat.testBit (pre bs j) k with
      | false => rfl
      | true => exact (hkD (hp1 k ht)).elim
    · have hcut : Cut E ops.toList X D j := ⟨fun h hh hl => by
        apply Classical.byContradiction; intro hD; exact hearly ⟨h, hl, hh, hD⟩, none_late⟩
      exact at_ j (Nat.le_refl _) hcut hv

theorem Inv.one (hC : C.Good) (hE : E.P = C.P) (hcall : CallerSound C call) (R : Run E call nt ops.toList bs X) (hX0 : c0 = (X 0).c) (hd0 : ∀ b k, H0 b = some k → ¬ (c0 ≤ b ∧ b < (X ops.toList.length).c)) (hG0 : Glob ρ0) (hf0 : Fresh ρ0 c0 (X ops.toList.length).c)
    (I : Inv C E nt ops.toList bs X ρ0 H0 c0 w0 ds D ρ G a w) {j : Nat} {o : Oper} (hj : ops.toList[j]? = some o) (hn : ¬ D j) (hp1 : ∀ i, Nat.testBit (pre bs j) i = true → D i)
    {K : Act → World → Prop} {Q : Exit → Act → World → Prop} (hK : ∀ ρ' G' a' w', Inv C E nt ops.toList bs X ρ0 H0 c0 w0 ds (fun i => i = j ∨ D i) ρ' G' a' w' → K a' w') : wpOp C.P ops Q j K a w := by
  have hjl := (List.getElem?_eq_some_iff.1 hj).1
  have hG : Glob ρ := hG0.sub (I.ext.sub hf0)
  have hO := I.opd R hG hj hn hp1
  have hoj : ops[j]? = some o := by rw [← Array.getElem?_toList]; exact hj
  have wanted : ∀ {b}, wantF ops.toList (X j).T o = some b → Region.wanted o (yielded ops a.tmps) = b := fun h => I.want hC rfl R hj hn hp1 h
  unfold wpOp
  rw [hoj]
  simp only
  obtain ⟨s, _⟩ := R.st j o hj
  cases s with
  | s hw ht =>
    rw [wanted hw, if_neg (by simp)]
    exact hK ρ G _ w (I.quiet R hj hn hp1 ht undef_self (fun ⟨o', h1, h2, _⟩ => by rw [hj] at h1; cases h1; rw [hw] at h2; cases h2) (fun b ⟨o', _, h1, h2, _⟩ => by rw [hj] at h1; cases h1; rw [hw] at h2; cases h2))
  | p v hw hk hv ht =>
    rw [wanted hw, if_pos rfl]
    left
    rw [hE] at hv
    obtain ⟨v', h1, h2⟩ := opV_sound (w := w) hC.ok hC.one hv hO (by
      have : (Tr.get (.e : Heap)) = fun _ => none := funext fun b => Tr.get_e b
      rw [this]; exact WR.empty C ρ w)
    unfold Oper.wp; rw [h1]
    exact hK ρ G _ w (I.quiet R hj hn hp1 ht h2 (fun ⟨o', h1, h2, h3⟩ => by rw [hj] at h1; cases h1; rw [hk] at h3; cases h3) (fun b ⟨o', _, h1, h2, h3, _⟩ => by rw [hj] at h1; cases h1; rw [hk] at h3; cases h3))
  | l v hw hk hv ho ht =>
    rw [wanted hw, if_pos rfl]
    left
    obtain ⟨A, hA1, hA2⟩ := I.read R hj hn hp1 hw hk hv ho
    rw [hE] at hA2
    obtain ⟨v', h1, h2⟩ := opV_sound (w := w) hC.ok hC.one hA2 hO (I.ext.wr.sub hA1)
    unfold Oper.wp; rw [h1]
    exact hK ρ G _ w (I.quiet R hj hn hp1 ht h2 (fun ⟨o', h1, h2, h3⟩ => by rw [hj] at h1; cases h1; rw [hk] at h3; cases h3) (fun b ⟨o', _, h1, h2, h3, _⟩ => by rw [hj] at h1; cases h1; rw [hk] at h3; cases h3))
  | n v b hw hk hv ht =>
    rw [wanted hw, if_pos rfl]
    left
    have hN : New E ops.toList X j b := ⟨o, v, hj, hw, hk, hv⟩
    obtain ⟨hcc, _⟩ := R.newC hN
    have hfc : ρ (X j).c = none := I.fresh j hjl hn _ (Nat.le_refl _) (by omega)
    rw [hE] at hv
    obtain ⟨v', pl, w', h1, h2, h3, h4, h5, h6⟩ := opN_sound hC.one hv hO hfc w
    unfold Oper.wp; rw [h1]
    exact hK _ _ _ w' (I.made R hX0 hd0 hj hn hp1 ht (fun ⟨o', h1, h2, h3⟩ => by rw [hj] at h1; cases h1; rw [hk] at h3; cases h3) hN h4 (Ext.new I.ext.wr hfc h2 h3 h5 h6))
  | x v hw hk h1 h2 hv ho hle ht =>
    rw [wanted hw, if_pos rfl]
    left
    have hx : Heavy E ops.toList X j := ⟨o, hj, hw, hk⟩
    have hcut := I.cutAt R hj hn hp1 hx
    have hAG : ∀ b k, (hA (X j).pend (X j).B).get b = some k → G b = some k := fun b k hb => by
      rcases hA_get _ _ _ _ hb with h | ⟨i, h⟩
      · exact I.know1 j (by omega) hcut b k h
      · obtain ⟨q1, q2, q3, q4⟩ := R.pend (k := j) (by omega) i b k h
        rw [q2]
        refine I.know2 i k (hp1 i (pendOk_mem h1 _ _ _ h)) q3 fun y hy hD => q4 y hy ?_
        apply Classical.byContradiction; intro hc2
        exact hcut.2 y hy (by omega) hD
    rw [hE] at hv
    refine opX_sound hC.one hcall hv hO (I.ext.wr.sub hAG) hG (I.fresh j hjl hn) fun v' ρ' w' g1 g2 => ?_
    exact hK _ _ _ w' (I.turned R hX0 hd0 hj hn hp1 ht hx g1 g2 hAG)

theorem Inv.all (hC : C.Good) (hE : E.P = C.P) (hcall : CallerSound C call) (R : Run E call nt ops.toList bs X) (hX0 : c0 = (X 0).c) (hd0 : ∀ b k, H0 b = some k → ¬ (c0 ≤ b ∧ b < (X ops.toList.length).c)) (hG0 : Glob ρ0) (hf0 : Fresh ρ0 c0 (X ops.toList.length).c)
    {Q : Exit → Act → World → Prop} (hQ : ∀ D ρ G a w, (∀ i, i < ops.size → D i) → Inv C E nt ops.toList bs X ρ0 H0 c0 w0 ds D ρ G a w → Q .normal a w) :
    ∀ (fuel : Nat) (listed : Array Bool) (l : List Nat) (ρ : Ren) (G : Hf) (a : Act) (w : World), listed.size = ops.size → l.length ≤ fuel → (∀ i, i < ops.size → listed.getD i false = false → i ∈ l) →
      Inv C E nt ops.toList bs X ρ0 H0 c0 w0 ds (fun i => listed.getD i false = true) ρ G a w → wpAny C.P .any ops Q fuel listed a w := by
  have full : ∀ (listed : Array Bool), listed.size = ops.size → Region.ready .any ops listed = [] → ∀ i, i < ops.size → listed.getD i false = true := by
    intro listed hsz hr i
    induction i using Nat.strongRecOn with
    | ind i ih =>
      intro hi
      apply Classical.byContradiction; intro hc
      have : i ∈ Region.ready .any ops listed := by
        rw [mem_ready]
        refine ⟨?_, ops[i], by simp [hi], fun e he hb => ?_⟩
        · have hi' : i < listed.size := by omega
          simp [hi'] at hc ⊢
          exact hc
        · have hlt := R.edge i ops[i] (by simp [hi]) e he hb
          exact ih e.on hlt (by omega)
      rw [hr] at this; cases this
  intro fuel
  induction fuel with
  | zero =>
    intro listed l ρ G a w hsz hl hmem I
    have hl0 : l = [] := List.length_eq_zero_iff.1 (by omega)
    subst hl0
    have hall : ∀ i, i < ops.size → listed.getD i false = true := fun i hi => by
      cases h : listed.getD i false with
      | true => rfl
      | false => exact absurd (hmem i hi h) (by simp)
    refine ⟨?_, hQ _ ρ G a w hall I⟩
    apply List.eq_nil_iff_forall_not_mem.2
    intro j hj
    obtain ⟨h1, o, ho, _⟩ := mem_ready.1 hj
    have hlt := (Array.getElem?_eq_some_iff.1 ho).1
    have h2 := hall j hlt
    have hlt' : j < listed.size := by omega
    simp [hlt'] at h1 h2
    rw [h1] at h2; cases h2
  | succ fuel ih =>
    intro listed l ρ G a w hsz hl hmem I
    refine ⟨fun hr => hQ _ ρ G a w (full listed hsz hr) I, fun j hj => ?_⟩
    obtain ⟨h1, o, ho, hpre⟩ := mem_ready.1 hj
    have hlt := (Array.getElem?_eq_some_iff.1 ho).1
    have hlt' : j < listed.size := by omega
    have h1' : listed.getD j false = false := by simp [hlt'] at h1 ⊢; exact h1
    have hol : ops.toList[j]? = some o := by rw [Array.getElem?_toList]; exact ho
    have hn : ¬ listed.getD j false = true := by rw [h1']; simp
    refine I.one hC hE hcall R hX0 hd0 hG0 hf0 hol hn (fun i hi => ?_) fun ρ' G' a' w' I' => ?_
    · obtain ⟨e, he, hb, h⟩ := R.bits j o hol i hi
      rcases h with h | h
      · rw [h]; exact hpre e he hb
      · exact I.closed e.on (hpre e he hb) i (h (R.edge j o hol e he hb))
    · refine ih _ (l.erase j) ρ' G' a' w' (by simpa using hsz) ?_ (fun i hi h => ?_) ?_
      · rw [List.length_erase_of_mem (hmem j hlt h1')]; omega
      · by_cases e : i = j
        · subst e
          simp [hlt'] at h
        · rw [getD_set_ne false (Ne.symm e)] at h
          exact (List.mem_erase_of_ne e).2 (hmem i hi h)
      · have : (fun i => (listed.setIfInBounds j true).getD i false = true) = fun i => i = j ∨ listed.getD i false = true := by
          funext i
          by_cases e : i = j
          · subst e; simp [hlt']
          · rw [getD_set_ne false (Ne.symm e)]; simp [e]
        rw [this]; exact I'

theorem drawn_ok (hC : C.Good) (hE : E.P = C.P) (hm : C.P.follows .mixedOrders = true) (nt : Nat) : DrawnOK C E nt := by
  intro call hcall ops id ds T H c s h
  unfold drawnF at h
  simp only at h
  split at h
  case h_2 => cases h
  rename_i hchk
  simp only [Bool.and_eq_true] at hchk
  split at h
  case h_2 => cases h
  rename_i x hx
  simp only [heapAll_eq, Option.some.injEq] at h
  subst h
  obtain ⟨X, q1, q2, q3⟩ := drawF_run _ _ _ _ hx
  simp only [Nat.zero_add] at q2 q3
  have R : Run E call nt ops.toList (befores ops.toList []) X := by
    refine ⟨fun i o hi => stepD_stp (q3 i o hi), fun i o hi e he hb => ?_, fun i o hi j hj => ?_, fun j k o q hjk hj hk hcl => ?_, by rw [q1]⟩
    · simpa using edgesOk_get _ 0 hchk.1 i o hi e he hb
    · have := befores_get ops.toList [] i o hi j (by simp only [List.length_nil, Nat.zero_add]; exact hj)
      simp only [List.length_nil, Nat.zero_add] at this
      exact this
    · have := tmpsOk_get _ 0 hchk.2 j k o q hjk hj hk hcl
      simp only [Nat.zero_add] at this
      exact this
  have hX0 : c = (X 0).c := by rw [q1]
  have hle := R.le (i := 0) (k := ops.toList.length) (by omega) (by omega)
  have hcn : x.c = (X ops.toList.length).c := by rw [q2]
  refine ⟨by show c ≤ x.c; omega, fun ρ a w hs hW hG hf Q hQ => ?_⟩
  change Fresh ρ c x.c at hf
  rw [hcn] at hf
  have hd0 : ∀ b k, H.get b = some k → ¬ (c ≤ b ∧ b < (X ops.toList.length).c) := hW.notFresh hf
  refine wp_region_any hm ?_
  refine Inv.all (c0 := c) (ρ0 := ρ) (H0 := H.get) (w0 := w) (ds := ds) hC hE hcall R hX0 hd0 hG hf (fun D ρ' G a' w' hD I => ?_) ops.size _ (List.range ops.size) ρ H.get a _ (by simp) (by simp) (fun i hi _ => by simpa using hi) ?_
  · refine hQ a' w' ⟨ρ', ⟨fun t v hv => ?_, I.size, I.defers⟩, ?_⟩
    · change x.T.get t = some v at hv
      refine I.tmps t ops.toList.length v (Nat.le_refl _) (fun i o hi _ _ => hD i (by simpa using hi)) (fun i o hi ho _ => ?_) (by rw [q2]; exact hv)
      have := (List.getElem?_eq_some_iff.1 ho).1
      omega
    · have he := I.ext
      rw [q2] at he
      refine he.less fun b k hb => ?_
      have hcut : Cut E ops.toList X D ops.toList.length := ⟨fun h hh hl => hD h (by simpa using hl), fun h hh hl => by have := heavy_lt hh; omega⟩
      change (hA x.pend x.B).get b = some k at hb
      rcases hA_get _ _ _ _ hb with h | ⟨i, h⟩
      · exact I.know1 _ (Nat.le_refl _) hcut b k (by rw [q2]; exact h)
      · rw [← q2] at h
        obtain ⟨p1, p2, p3, p4⟩ := R.pend (Nat.le_refl _) i b k h
        rw [p2]
        exact I.know2 i k (hD i (by simpa using p1)) p3 fun y hy _ => p4 y hy (heavy_lt hy)
  · have nothing : ∀ i, ¬ ((Array.replicate ops.size false).getD i false = true) := fun i => by
      by_cases h : i < ops.size <;> simp [Array.getD_eq_getD_getElem?, Array.getElem?_replicate, h]
    have noHeavy : ∀ k, k ≤ ops.toList.length → Cut E ops.toList X (fun i => (Array.replicate ops.size false).getD i false = true) k → (X k).B = H := fun k hk hc => by
      rw [R.base (i := 0) (by omega) hk fun h hh _ hl => nothing h (hc.1 h hh hl), q1]
    refine ⟨fun i hi => (nothing i hi).elim, fun t k v hk h1 h2 hv => ?_, hs.size, hs.defers, ?_, fun k hk hc b y hb => ?_, fun k hk hc b y hb => ?_, fun i b hi => (nothing i hi).elim, fun i hi _ => ?_⟩
    · refine hs.tmps t v ?_
      rw [R.temp (i := 0) (by omega) hk fun j o _ hl ho hd => nothing j (h1 j o hl ho hd), q1] at hv
      exact hv
    · have hW' : WR C ρ H.get { w with drawn := w.drawn + 1 } := ⟨fun b k hb => (hW.br b k hb).keep (Sub.refl ρ) fun _ _ => rfl, hW.inj⟩
      exact ⟨by rw [hX0]; exact hle, fun _ _ => rfl, Nat.le_refl _, fun _ _ _ => rfl, fun _ _ h => h, fun b k h => .inl ⟨k, h⟩, fun b k hb hc => (hd0 b k hb hc).elim, fun b k k' h h' => by rw [h] at h'; cases h'; rfl, hW', rfl, rfl, rfl⟩
    · rw [noHeavy k hk hc] at hb; exact hb
    · rw [noHeavy k hk hc] at hb; exact .inl ⟨y, hb⟩
    · have l1 := R.le (i := 0) (k := i) (by omega) (by omega)
      have l2 := R.le (i := i + 1) (k := ops.toList.length) (by omega) (by omega)
      exact hf.mono (by omega) (by omega)
end
end Go.Proofs.YtgljampcnbgbhaaGreatDoor.Ev
namespace Go.Proofs.YtgljampcnbgbhaaGreatDoor.Ev
open Go
noncomputable section

/-- What comes of a body's end. -/
def resOut (P : Program) (rs : List ResultVar) : Option (Ex × St) → Option Out
  | some (.normal, T, H, c) | some (.ret, T, H, c) => match resultsF P H T rs with
    | some [v] => some (v, H, c)
    | some vs => some (.tuple ⟨vs⟩, H, c)
    | none => none
  | _ => none
/-- An index of what was handed over. -/
def hook45 (E : Env) : Hook := fun call args H c => match args with
  | [.chan (some 0), .int .i64 (.ofNat _)] => match H.get 16 with
    | some .dr => some (.chan (some 1), H, c)
    | _ => none
  | args => match E.F 45 with
    | some fn => match fn.body with
      | some cd => enterF E (fun _ => call) fn cd args H c
      | none => none
    | none => none
/-- A body with a deferred call behind its first region. -/
def hook151 (E : Env) : Hook := fun call args H c => match E.F 151 with
  | some fn => match fn.body with
    | some (.seq r0 (.seq _ rest)) => match Nat.ble (lenL args) 11 with
      | true => Tr.ofList args fun T => match codeF E 11 (fun _ => call) 4000 none r0 T H c with
        | some (.normal, T, H, c1) => match T.get 5 with
          | none => resOut E.P fn.results.toList (codeF E 11 (fun _ => call) 4000 none rest T H c1)
          | some _ => none
        | _ => none
      | false => none
    | _ => none
  | none => none
/-- A body with a range over a function that yields nothing. -/
def hook214 (E : Env) : Hook := fun call args H c => match E.F 214, E.F 318 with
  | some fn, some gn => match fn.body, gn.body with
    | some (.seq r0 (.seq r1 (.seq r2 (.seq (.seq r3 _) rest)))), some gb => match Nat.ble (lenL args) 32 with
      | true => Tr.ofList args fun T => match codeF E 32 (fun _ => call) 4000 none r0 T H c with
        | some (.normal, T, H, c) => match codeF E 32 (fun _ => call) 4000 none r1 T H c with
          | some (.normal, T, H, c) => match codeF E 32 (fun _ => call) 4000 none r2 T H c with
            | some (.normal, T, H, c) => match codeF E 32 (fun _ => call) 4000 none r3 T H c with
              | some (.normal, T, H, c) => match T.get 20 with
                | some (.func (.func g) ⟨[]⟩ ⟨[x]⟩) => match Nat.beq g 318 with
                  | true => Tr.setK .e 1 (some x) fun U => match codeF E 19 (fun _ => call) 4000 none gb U H c with
                    | some (.normal, _, H, c) | some (.ret, _, H, c) => resOut E.P fn.results.toList (codeF E 32 (fun _ => call) 4000 none rest T H c)
                    | _ => none
                  | false => none
                | _ => none
              | _ => none
            | _ => none
          | _ => none
        | _ => none
      | false => none
    | _, _ => none
  | _, _ => none
def hook261 : Hook := fun _ args H c => match args with
  | [x] => some (x, H, c)
  | _ => none
def hook312 : Hook := fun _ args H c => match args with
  | [.int .i64 (.ofNat n)] => match Nat.ble n 1048576 with
    | true => newBlk H c (.cells false 5 none .e) (.slice (some ⟨c, 0, none⟩) n (capU 1))
    | false => none
  | _ => none
def idxF (n : Nat) : List UInt8 → Nat → Int
  | [], _ => -1
  | b :: l, i => match Nat.beq b.toNat n with
    | true => .ofNat i
    | false => idxF n l (Nat.succ i)
def hook418 : Hook := fun _ args H c => match args with
  | [.string ⟨⟨bs⟩⟩, .int .u8 (.ofNat n)] => match Nat.blt n 256 with
    | true => forceI (idxF n bs 0) fun i => some (.int .i64 i, H, c)
    | false => none
  | _ => none
/-- One block, known once and for all. -/
def hookB (b : Blk) : Hook := fun _ args H c => match args with
  | [] => newBlk H c b (.pointer (some ⟨c, 0, none⟩))
  | _ => none
def hooksOf (E : Env) (memo : Option Blk) (f : Nat) : Option Hook := match Nat.beq f 45 with
  | true => some (hook45 E)
  | false => match Nat.beq f 151 with
    | true => some (hook151 E)
    | false => match Nat.beq f 214 with
      | true => some (hook214 E)
      | false => match Nat.beq f 261 with
        | true => some hook261
        | false => match Nat.beq f 312 with
          | true => some hook312
          | false => match Nat.beq f 418 with
            | true => some hook418
            | false => match Nat.beq f 32 with
              | true => match memo with
                | some b => some (hookB b)
                | none => none
              | false => none
end
end Go.Proofs.YtgljampcnbgbhaaGreatDoor.Ev
namespace Go.Proofs.YtgljampcnbgbhaaGreatDoor.Ev
open Go Go.RowKit

section
variable {C : Cx}
theorem callSound_value {f : Nat} {args : List Value} {H : Heap} {c : Nat} {out : Out}
    (h : ∀ (ρ : Ren) (w : World) (args' : List Value), VRs C ρ args args' → WR C ρ H.get w → Glob ρ → Fresh ρ c out.2.2 →
      ∃ v' ρ' w', (callFunc f args'.toArray).run C.P w = .ok (.value v') w' ∧ VR C ρ' out.1 v' ∧ Ext C ρ H.get c w ρ' out.2.1.get out.2.2 w') : CallSound C f args H c out := by
  intro ρ w args' hv hW hG hf o a next Q hk
  obtain ⟨v', ρ', w', h1, h2, h3⟩ := h ρ w args' hv hW hG hf
  rw [h1]
  exact hk v' ρ' w' h2 h3
theorem sound261 (hP : C.P = Tryz.prog) {call : Caller} {args : List Value} {H : Heap} {c : Nat} {out : Out} (h : hook261 call args H c = some out) : CallSound C 261 args H c out := by
  unfold hook261 at h
  split at h
  · cases h
    refine callSound_value fun ρ w args' hv hW hG hf => ?_
    cases hv with
    | cons r t =>
    cases t
    rename_i x'
    refine ⟨x', ρ, w, ?_, r, Ext.refl hW⟩
    rw [hP, run_callFunc_extern Tryz.func261 (by kernel_rfl) (by kernel_rfl) (by kernel_rfl) (e := Extern.AbiNoEscape.same) (by kernel_rfl)]
    rw [Lib.run_noEscape]; rfl
  · cases h
theorem sound312 (hP : C.P = Tryz.prog) {call : Caller} {args : List Value} {H : Heap} {c : Nat} {out : Out} (h : hook312 call args H c = some out) : CallSound C 312 args H c out := by
  unfold hook312 at h
  split at h
  · rename_i n
    split at h
    · rename_i hn
      have hn := (ble_iff _ _).1 hn
      unfold newBlk at h
      simp only [Tr.setK_eq, forceN_eq, Option.some.injEq] at h
      subst h
      refine callSound_value fun ρ w args' hv hW hG hf => ?_
      cases hv with
      | cons r t =>
      cases t
      cases r
      obtain ⟨cs, h1, h2, h3⟩ := Lib.run_makeNoZero (P := Tryz.prog) w #[3] 22 5 (by kernel_rfl) n (by omega)
      have hfc : ρ c = none := hf c (Nat.le_refl _) (Nat.lt_succ_self c)
      refine ⟨.slice (some ⟨w.heap.size, 0, none⟩) n cs.size, upd ρ c ⟨w.heap.size, 0, 1, cs.size⟩, w.drew.drew.alloc (.cells cs 5), ?_, ?_, ?_⟩
      · rw [hP, run_callFunc_extern Tryz.func312 (by kernel_rfl) (by kernel_rfl) (by kernel_rfl) (e := Extern.BytealgMakeNoZero.makeNoZero #[3] #[22]) (by kernel_rfl)]
        show Result.andThen ((Extern.BytealgMakeNoZero.makeNoZero #[3] #[22] #[.int .i64 n]).run Tryz.prog w) _ = _
        rw [h1]; rfl
      · exact .slU (b := c) (o := 0) (pl := ⟨w.heap.size, 0, 1, cs.size⟩) n cs.size (upd_same _ _ _) h2 (by simp)
      · show Ext C ρ H.get c w _ (H.set c _).get (c + 1) _
        rw [get_setH]
        refine Ext.new hW hfc ⟨?_, ?_, rfl, rfl, rfl⟩ rfl ?_ rfl
        · show (w.heap.push _).size = w.heap.size + 1
          simp
        · intro i hi
          show (w.heap.push _)[i]? = w.heap[i]?
          simp [Array.getElem?_push, Nat.ne_of_lt hi]
        · refine ⟨⟨w.heap.size, 0, 1, cs.size⟩, cs, (0, 0), upd_same _ _ _, ?_, ?_, fun o v hv => ?_, fun o _ => by simp, ?_⟩
          · show (w.heap.push _)[w.heap.size]? = _
            simp
          · simp
          · rw [Tr.get_e] at hv; cases hv
          · refine ⟨by simp, ?_, fun o v hv => ?_⟩
            · rw [hP]; kernel_rfl
            · rw [Tr.get_e] at hv; cases hv
    · cases h
  · cases h
theorem idxF_eq (n : Nat) (hn : n < 256) : ∀ (l : List UInt8) (i : Nat), idxF n l i = if Lib.indexByte l n.toUInt8 = -1 then -1 else Lib.indexByte l n.toUInt8 + i
  | [], i => rfl
  | b :: l, i => by
    simp only [idxF, Lib.indexByte]
    have hb : (b == n.toUInt8) = Nat.beq b.toNat n := by
      rw [Bool.eq_iff_iff, beq_iff_eq, beq_iff]
      constructor
      · rintro rfl
        simp [Nat.toUInt8, UInt8.toNat_ofNat', Nat.mod_eq_of_lt hn]
      · intro h
        subst h
        simp [Nat.toUInt8]
    rw [← hb]
    rcases Bool.eq_false_or_eq_true (b == n.toUInt8) with hbb | hbb
    · simp only [hbb, if_true]
      rw [if_neg (by omega)]; simp
    · simp only [hbb, Bool.false_eq_true, if_false]
      rw [idxF_eq n hn l (i + 1)]
      have := Lib.indexByte_ge l n.toUInt8
      by_cases h : Lib.indexByte l n.toUInt8 = -1
      · simp [h]
      · have h2 : (Lib.indexByte l n.toUInt8 == -1) = false := by simp [h]
        rw [h2]
        simp only [Bool.false_eq_true, if_false]
        rw [if_neg h, if_neg (by omega)]
        omega
theorem sound418 (hP : C.P = Tryz.prog) {call : Caller} {args : List Value} {H : Heap} {c : Nat} {out : Out} (h : hook418 call args H c = some out) : CallSound C 418 args H c out := by
  unfold hook418 at h
  split at h
  · rename_i bs n
    split at h
    · rename_i hn
      have hn := (blt_iff _ _).1 hn
      simp only [forceI_eq, Option.some.injEq] at h
      subst h
      refine callSound_value fun ρ w args' hv hW hG hf => ?_
      cases hv with
      | cons r t =>
      cases t with
      | cons r2 t =>
      cases t
      cases r
      cases r2
      refine ⟨.int .i64 (idxF n bs 0), ρ, w, ?_, .int _ _, Ext.refl hW⟩
      rw [hP, run_callFunc_extern Tryz.func418 (by kernel_rfl) (by kernel_rfl) (by kernel_rfl) (e := Extern.BytealgIndexByte.indexByte) (by kernel_rfl)]
      show Result.andThen ((Extern.BytealgIndexByte.indexByte #[.string ⟨⟨bs⟩⟩, .int .u8 (n : Int)]).run Tryz.prog w) _ = _
      rw [run_indexByte_string]
      have : firstIdx ⟨⟨bs⟩⟩ (n : Int).toNat.toUInt8 = idxF n bs 0 := by
        rw [Lib.firstIdx_eq, idxF_eq n hn]
        show Lib.indexByte bs n.toUInt8 = _
        split
        · assumption
        · simp
      rw [this]; rfl
    · cases h
  · cases h
end
end Go.Proofs.YtgljampcnbgbhaaGreatDoor.Ev
