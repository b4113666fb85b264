/- The evaluator: calls that are known. No conditions but those that each theorem names. -/
import Derived.Test.YtgljampcnbgbhaaGreatDoorEs
import Derived.WalkKit
import Derived.Recover
import Derived.RangeFuncLeaves
import Derived.ControlIn
set_option linter.unusedVariables false
set_option linter.unusedSimpArgs false
namespace Go.Proofs.YtgljampcnbgbhaaGreatDoor.Ev
open Go Go.RowKit
set_option maxRecDepth 100000

section
variable {C : Cx}
/-- One block that is known, beside others that are not. -/
theorem Ext.new' {ρ : Ren} {H : Hf} {w w' : World} {c : Nat} {b : Blk} {pl : Pl} (hW : WR C ρ H w) (hf : ρ c = none) (hs : w.heap.size ≤ w'.heap.size) (ho : ∀ i, i < w.heap.size → w'.heap[i]? = w.heap[i]?) (h1 : w'.os = w.os) (h2 : w'.tape = w.tape) (h3 : w'.output = w.output)
    (hp : w.heap.size ≤ pl.blk) (hb : BR C (upd ρ c pl) w' c b) (hr : roB b = false) : Ext C ρ H c w (upd ρ c pl) (setH H c (some b)) (c + 1) w' where
  le := by omega
  ren x hx := upd_ne (by omega)
  size := hs
  old i hi _ := ho i hi
  own i hi := fun ⟨x, k, q, h1, h2, h3, h4⟩ => by
    unfold setH at h1
    by_cases e : x = c
    · subst e; rw [upd_same] at h3; cases h3; omega
    · rw [if_neg e] at h1; rw [upd_ne e] at h3; exact ⟨x, k, q, h1, h2, h3, h4⟩
  dom x k hx := by
    unfold setH at hx
    by_cases e : x = c
    · right; omega
    · rw [if_neg e] at hx; exact .inl ⟨k, hx⟩
  newRo x k hx hc := by
    have : x = c := by omega
    subst this
    unfold setH at hx; rw [if_pos rfl] at hx; cases hx; exact hr
  ro x k k' hx hx' := by
    have hne : x ≠ c := by rintro rfl; obtain ⟨q, hq, _⟩ := (hW.br _ _ hx).place; rw [hf] at hq; cases hq
    unfold setH at hx'; rw [if_neg hne, hx] at hx'; cases hx'; rfl
  wr := by
    have lt : ∀ x k q, H x = some k → ρ x = some q → q.blk < w.heap.size := fun x k q hx hq => by
      obtain ⟨q', h1, h2⟩ := (hW.br _ _ hx).place; rw [hq] at h1; cases h1; exact h2
    refine ⟨fun x k hx => ?_, fun x y k k' p q hx hy hor hp' hq e => ?_⟩
    · unfold setH at hx
      by_cases e : x = c
      · subst e; rw [if_pos rfl] at hx; cases hx; exact hb
      · rw [if_neg e] at hx
        exact (hW.br x k hx).keep (upd_sub hf) fun q hq => ho _ (lt x k q hx hq)
    · unfold setH at hx hy
      by_cases e1 : x = c <;> by_cases e2 : y = c
      · rw [e1, e2]
      · subst e1; rw [upd_same] at hp'; cases hp'; rw [if_neg e2] at hy; rw [upd_ne e2] at hq
        have := lt y k' q hy hq; omega
      · subst e2; rw [upd_same] at hq; cases hq; rw [if_neg e1] at hx; rw [upd_ne e1] at hp'
        have := lt x k p hx hp'; omega
      · rw [if_neg e1] at hx; rw [if_neg e2] at hy; rw [upd_ne e1] at hp'; rw [upd_ne e2] at hq
        exact hW.inj x y k k' p q hx hy hor hp' hq e
  os := h1
  tape := h2
  output := h3
theorem soundB {f m : Nat} {el : TypeId} {t : Tr Value} {G : Heap} (haf : ∀ o v, t.get o = some v → af 5 v = true) (hG : G.get 100 = some (.cells false el (some m) t))
    (hcs : CallSound C f [] .e 100 (.pointer (some ⟨100, 0, none⟩), G, 101)) {call : Caller} {args : List Value} {H : Heap} {c : Nat} {out : Out} (h : hookB (.cells false el (some m) t) call args H c = some out) : CallSound C f args H c out := by
  unfold hookB at h
  split at h
  · unfold newBlk at h
    simp only [Tr.setK_eq, forceN_eq, Option.some.injEq] at h
    subst h
    intro ρ w args' hv hW hGl hf o a next Q hk
    cases hv
    have hfc : ρ c = none := hf c (Nat.le_refl _) (Nat.lt_succ_self c)
    have he0 : (Tr.get (.e : Heap)) = fun _ => none := funext fun b => Tr.get_e b
    refine hcs (fun x => if x < 16 then ρ x else none) w [] .nil (by rw [he0]; exact WR.empty C _ w) (fun g hg => ?_) (fun b h1 h2 => if_neg (by omega)) o a next Q fun v' ρ' w' hv he => ?_
    · obtain ⟨pl, q1, q2⟩ := hGl g hg
      exact ⟨pl, (if_pos hg).trans q1, q2⟩
    · rw [he0] at he
      have nob : ∀ i, ¬ Own (fun x => if x < 16 then ρ x else none) (fun _ => none) i := fun i ⟨b, k, _, h1, _⟩ => by cases h1
      obtain ⟨pl, _, hp, rfl⟩ := hv.ptr_inv
      change ρ' 100 = some pl at hp
      obtain ⟨pl', cs, fz, g1, g2, g3, g4, g5, g6⟩ := he.wr.br 100 _ hG
      rw [hp] at g1; cases g1
      have hsz : w.heap.size ≤ pl.blk := by
        apply Classical.byContradiction; intro hc
        exact nob _ (he.own pl.blk (by omega) ⟨100, _, pl, hG, rfl, hp, rfl⟩)
      refine hk _ (upd ρ c pl) w' ?_ ?_
      · exact .ptr (b := c) (o := 0) (upd_same _ _ _)
      · show Ext C ρ H.get c w _ (H.set c _).get (c + 1) _
        rw [get_setH]
        refine Ext.new' hW hfc he.size (fun i hi => he.old i hi (nob i)) he.os he.tape he.output hsz ⟨pl, cs, fz, upd_same _ _ _, g2, g3, fun o v hv => ?_, g5, g6⟩ rfl
        obtain ⟨v', k1, k2⟩ := g4 o v hv
        have := VR_af 5 v v' (haf o v hv) k2
        subst this
        exact ⟨v', k1, VR_self_af 5 v' (haf o v' hv)⟩
  · cases h

/-- What was handed over can be read. -/
structure Cx.Draws (C : Cx) : Prop where
  row : ∃ a l cap, C.D = .slice a l cap ∧ l ≤ cap ∧ cap ≤ maxLen ∧ ∀ i, i < l → ∃ off cs el fz n, a = some ⟨C.db, off, none⟩ ∧ C.dr = .cells cs el fz ∧ cs[off + i]? = some (.int .u8 n) ∧ 0 ≤ n ∧ n ≤ 255
set_option maxHeartbeats 1000000 in
theorem draw45 {D : Value} {a : Option Addr} {l cap i : Nat} {w : World} (hD : D = .slice a l cap) (hl : l ≤ cap) (hc : cap ≤ maxLen)
    (hr : i < l → ∃ b off n, a = some ⟨b, off, none⟩ ∧ w.cell? ⟨b, off + i, none⟩ = some (.int .u8 n) ∧ 0 ≤ n ∧ n ≤ 255) :
    Calls Tryz.prog 45 #[D, .int .i64 (i : Int)] w fun e w' => (∃ n, e = .returned (.int .i64 n) ∧ 0 ≤ n ∧ n ≤ 255) ∧ w' = w := by
  subst hD
  unfold maxLen at hc
  by_cases h : i < l
  · obtain ⟨b, off, n, rfl, h1, h2, h3⟩ := hr h
    go_enter Tryz.func45, Tryz.ntmps45
    go_wp2
    go_ret
    exact ⟨⟨_, rfl, by omega, by omega⟩, rfl⟩
  · go_enter Tryz.func45, Tryz.ntmps45
    go_wp2
    go_ret
    exact ⟨⟨_, rfl, by omega, by omega⟩, rfl⟩
end
end Go.Proofs.YtgljampcnbgbhaaGreatDoor.Ev
namespace Go.Proofs.YtgljampcnbgbhaaGreatDoor.Ev
open Go Go.RowKit
set_option maxRecDepth 100000

section
variable {C : Cx} {E : Env}
theorem callSound_calls {f : Nat} {fn : Func} {cd : Code} {args : List Value} {H : Heap} {c : Nat} {out : Out} (hf : C.P.funcs[f]? = some fn) (hn : (fn.name == "runtime.NumGoroutine") = false) (hb : fn.body = some cd)
    (h : ∀ (ρ : Ren) (w : World) (args' : List Value), VRs C ρ args args' → WR C ρ H.get w → Glob ρ → Fresh ρ c out.2.2 →
      Calls C.P f args'.toArray w fun e w' => ∃ v' ρ', e = .returned v' ∧ VR C ρ' out.1 v' ∧ Ext C ρ H.get c w ρ' out.2.1.get out.2.2 w') : CallSound C f args H c out := by
  intro ρ w args' hv hW hG hfr o a next Q hk
  rw [MuLone.run_callFunc_enter hf hn hb, Oper.upon_enter]
  refine Calls.mono (h ρ w args' hv hW hG hfr) fun e w' ⟨v', ρ', he, h1, h2⟩ => ?_
  subst he
  exact hk v' ρ' w' h1 h2
theorem sound45 (hC : C.Good) (hE : E.P = C.P) (hF : Funs C E) (hdr : ∀ nt, DrawnOK C E nt) (hP : C.P = Tryz.prog) (hd : C.Draws) {call : Caller} (hcall : CallerSound C call) {args : List Value} {H : Heap} {c : Nat} {out : Out} (h : hook45 E call args H c = some out) : CallSound C 45 args H c out := by
  unfold hook45 at h
  split at h
  · rename_i i
    split at h
    · rename_i hdr16
      cases h
      refine callSound_calls (fn := Tryz.f45) (by rw [hP]; exact Tryz.func45) (by kernel_rfl) rfl fun ρ w args' hv hW hG hf => ?_
      cases hv with
      | cons r t =>
      cases t with
      | cons r2 t =>
      cases t
      cases r2
      obtain ⟨pl, g1, g2, g3⟩ := hW.br 16 _ hdr16
      obtain ⟨a, l, cap, q1, q2, q3, q4⟩ := hd.row
      have hD : ∀ v', VR C ρ (.chan (some 0)) v' → v' = C.D := fun v' hv => by
        cases hv with
        | tok0 => rfl
        | sym hsym => simp [symDec] at hsym
      have := hD _ r
      subst this
      rw [hP]
      refine Calls.mono (draw45 (i := i) q1 q2 q3 fun hi => ?_) fun e w' ⟨⟨n, h1, h2, h3⟩, hw⟩ => ⟨.int .i64 n, ρ, h1, .tok1 n h2 h3, by subst hw; exact Ext.refl hW⟩
      obtain ⟨off, cs, el, fz, n, k1, k2, k3, k4, k5⟩ := q4 i hi
      refine ⟨C.db, off, n, k1, ?_, k4, k5⟩
      rw [g2, k2] at g3
      simp [World.cell?, g3, k3]
    · cases h
  · split at h
    · rename_i fn hfn
      obtain ⟨g1, g2⟩ := hF 45 fn hfn
      split at h
      · rename_i cd hcd
        exact (enterF_sound hC hE (fun _ => hcall) hdr g1 g2 hcd h).2
      · cases h
    · cases h

/-- One result, or a tuple of them. -/
def oneOf : List Value → Value
  | [v] => v
  | vs => .tuple ⟨vs⟩
/-- What comes of a body's end. -/
theorem resOut_some {P : Program} {rs : List ResultVar} {r : Option (Ex × St)} {out : Out} (h : resOut P rs r = some out) :
    ∃ x T H c vs, r = some (x, T, H, c) ∧ (x = .normal ∨ x = .ret) ∧ resultsF P H T rs = some vs ∧ out = (oneOf vs, H, c) := by
  have fin : ∀ {T H c}, (match resultsF P H T rs with
      | some [v] => some (v, H, c)
      | some vs => some (.tuple ⟨vs⟩, H, c)
      | none => none) = some out → ∃ vs, resultsF P H T rs = some vs ∧ out = (oneOf vs, H, c) := fun {T H c} hm => by
    split at hm
    · rename_i v hv; cases hm; exact ⟨_, hv, rfl⟩
    · rename_i vs hne hv
      cases hm
      refine ⟨_, hv, ?_⟩
      cases vs with
      | nil => rfl
      | cons v t => cases t with
        | nil => exact (hne v rfl).elim
        | cons => rfl
    · cases hm
  unfold resOut at h
  split at h
  · obtain ⟨vs, h1, h2⟩ := fin h; exact ⟨_, _, _, _, vs, rfl, .inl rfl, h1, h2⟩
  · obtain ⟨vs, h1, h2⟩ := fin h; exact ⟨_, _, _, _, vs, rfl, .inr rfl, h1, h2⟩
  · cases h
/-- A body's results. -/
theorem results_sound {ρ : Ren} {nt : Nat} {ds : List Deferred} {T : Tr Value} {a : Act} {H : Heap} {w : World} {fn : Func} {vs : List Value} (hs : SR C ρ nt ds T a) (hW : WR C ρ H.get w) (h : resultsF C.P H T fn.results.toList = some vs) :
    ∃ v', (results fn a.tmps).run C.P w = .ok v' w ∧ VR C ρ (oneOf vs) v' := by
  obtain ⟨vs', q1, q2⟩ := resultsF_sound (f := fun | .tmp t => pure (a.tmps.getD t undef) | .cell x t => do loadVar t (← asAddr (a.tmps.getD x undef))) hs hW (fun _ => rfl) (fun _ _ => rfl) _ h
  have hres : (results fn a.tmps).run C.P w = .ok (if h : vs'.toArray.size = 1 then vs'.toArray[0] else .tuple vs'.toArray) w := by
    unfold results
    rw [Array.mapM_eq_mapM_toList]
    simp only [Sem.run_bind, Sem.run_map, Functor.map_map]
    exact (congrArg (fun r => Result.andThen (Result.andThen r _) _) q1).trans rfl
  refine ⟨_, hres, ?_⟩
  cases q2 with
  | nil => exact .tuple .nil
  | cons r t => cases t with
    | nil => exact r
    | cons r2 t2 =>
      simp only [List.size_toArray, List.length_cons]
      rw [dif_neg (by omega)]
      exact .tuple (.cons r (.cons r2 t2))
/-- The arguments, as temporaries. -/
theorem SR.args {ρ : Ren} {args args' : List Value} {nt : Nat} (hv : VRs C ρ args args') (hle : args.length ≤ nt) : SR C ρ nt [] (Tr.mk args) { tmps := args'.toArray ++ Array.replicate (nt - args'.toArray.size) undef, defers := [] } := by
  have hlen := hv.length
  refine ⟨fun t v ht => ?_, ?_, rfl⟩
  · rw [Tr.get_mk] at ht
    obtain ⟨v', h1, h2⟩ := hv.get t v ht
    have hlt := (List.getElem?_eq_some_iff.1 h1).1
    have : (args'.toArray ++ Array.replicate (nt - args'.toArray.size) undef).getD t undef = v' := by
      rw [Array.getD_eq_getD_getElem?, Array.getElem?_append_left (by simpa using hlt)]
      simp [h1]
    rw [this]; exact h2
  · simp; omega
/-- A piece that ends by itself, ahead of another. -/
theorem seq_wp {ρ : Ren} {nt : Nat} {ds : List Deferred} {a : Act} {H : Heap} {w : World} {c : Nat} {s : St} {x y : Code} {Q : Exit → Act → World → Prop}
    (hx : x.wp C.P (CodePost C ρ H c w nt ds (.normal, s)) a w) (hy : ∀ ρ1 a1 w1, SR C ρ1 nt ds s.1 a1 → Ext C ρ H.get c w ρ1 s.2.1.get s.2.2 w1 → y.wp C.P Q a1 w1) : (x.seq y).wp C.P Q a w :=
  wp_seq (Code.wp_mono (fun e a1 w1 ⟨he, ρ1, h1, h2⟩ => by subst he; exact hy ρ1 a1 w1 h1 h2) hx)

/-- The deferred call that finds no panic. -/
theorem calm222 (p q : Value) (w : World) : CallsD Tryz.prog 222 #[p, q] .returning w fun e u' w' => (∃ v, e = .returned v) ∧ u' = .returning ∧ w' = w := by
  have hnil : ∀ w : World, (binOp BinOp.eql 20 .nilIface .nilIface).run Tryz.prog w = .ok (.bool true) w := fun _ => by kernel_rfl
  refine callsD_of_wpS Tryz.func222 rfl fun c₀ cs hu => ?_
  apply wpS_seq
  apply wpS_region
  simp [wpOpsS, go_sem, recoverD, hu, Tryz.ntmps222, Exit.thenS]
  refine wpS_of_wp ?_
  go_wp2
  have hres : (results Tryz.f222 (#[p, q] ++ (((Array.replicate 11 undef).setIfInBounds 3 Value.nilIface).setIfInBounds 5 (Value.bool true)).setIfInBounds 0 Value.nilIface)).run Tryz.prog w = .ok (.tuple #[]) w := results_none rfl _ _ _
  refine ⟨rfl, .returning, ?_, _, hres, ⟨_, rfl⟩, rfl, rfl⟩
  cases c₀
  simp_all
/-- A deferred call behind the first region. -/
theorem sound151 (hC : C.Good) (hE : E.P = C.P) (hF : E.F 151 = some Tryz.f151) (hdr : ∀ nt, DrawnOK C E nt) (hP : C.P = Tryz.prog) {call : Caller} (hcall : CallerSound C call) {args : List Value} {H : Heap} {c : Nat} {out : Out} (h : hook151 E call args H c = some out) : CallSound C 151 args H c out := by
  unfold hook151 at h
  rw [hF] at h
  simp only at h
  split at h
  · rename_i r0 r1 rest hbody
    split at h
    · rename_i hle
      have hle := (ble_iff _ _).1 hle
      rw [lenL_eq] at hle
      simp only [Tr.ofList_eq] at h
      split at h
      · rename_i T1 H1 c1 h1
        split at h
        case h_2 => cases h
        rename_i hT5
        obtain ⟨x, T2, H2, c2, vs, h2, hx, hvs, hout⟩ := resOut_some h
        subst hout
        have s1 := codeF_sound (ds := []) hC hE (fun _ => hcall) (hdr 11) 4000 none r0 _ H c _ h1
        have s2 := fun ds => codeF_sound (ds := ds) hC hE (fun _ => hcall) (hdr 11) 4000 none rest _ H1 c1 _ h2
        refine callSound_calls (by rw [hP]; exact Tryz.func151) (by kernel_rfl) hbody fun ρ w args' hv hW hG hf => ?_
        refine calls_of_wp_defers (by rw [hP]; exact Tryz.func151) hbody ?_
        rw [Tryz.ntmps151]
        have hle1 : c ≤ c1 := s1.le
        have hle2 : c1 ≤ c2 := (s2 []).le
        refine seq_wp (s1.wp rfl ρ _ w (SR.args hv hle) hW hG (hf.mono (Nat.le_refl _) hle2)) fun ρ1 a1 w1 k1 k2 => ?_
        have hsub := k2.sub (hf.mono (Nat.le_refl _) hle2)
        -- the closure, deferred
        have hr1 : r1 = .region 1 #[{ dst := some 5, op := Op.makeFunc (Fn.func 222) #[] #[Operand.tmp 2, Operand.tmp 3], type := 1, pos := "cmd.go:221", after := #[], guard := none }, { dst := none, op := Op.defer { callee := Callee.value (Operand.tmp 5), args := #[], argTypes := #[] }, type := 0, pos := "cmd.go:221", after := #[{ on := 0, ground := Ground.data }], guard := none }] false := by
          have : (Tryz.f151.body) = some (.seq r0 (.seq r1 rest)) := hbody
          simp only [Tryz.f151, Option.some.injEq, Code.seq.injEq] at this
          exact this.2.1.symm
        subst hr1
        refine wp_seq (wp_region_list ?_)
        unfold wpList
        rw [if_pos (show Region.wanted _ _ = true from rfl)]
        left
        generalize hF5 : Value.func (Fn.func 222) #[] #[a1.eval (.tmp 2), a1.eval (.tmp 3)] = F5
        have e1 : ∀ o, o = ({ dst := some 5, op := Op.makeFunc (Fn.func 222) #[] #[Operand.tmp 2, Operand.tmp 3], type := 1, pos := "cmd.go:221", after := #[], guard := none } : Oper) → (execOp a1.eval o).run C.P w1 = .ok (.value F5) w1 := by
          rintro o rfl; rw [← hF5]; simp [execOp, Instr.makeFunc]
        unfold Oper.wp
        rw [e1 _ rfl, Oper.upon_value]
        unfold wpList
        rw [if_pos (show Region.wanted _ _ = true from rfl)]
        left
        have h5 : (a1.put (some 5) F5).eval (.tmp 5) = F5 := by
          have := k1.size
          simp [Act.eval, Act.put, show 5 < a1.tmps.size by omega]
        unfold Oper.wp
        have e2 : ∀ o, o = ({ dst := none, op := Op.defer { callee := Callee.value (Operand.tmp 5), args := #[], argTypes := #[] }, type := 0, pos := "cmd.go:221", after := #[{ on := 0, ground := Ground.data }], guard := none } : Oper) →
            (execOp (a1.put (some 5) F5).eval o).run C.P w1 = .ok (.defer { target := .fn (.func 222) #[a1.eval (.tmp 2), a1.eval (.tmp 3)], args := #[] }) w1 := by
          rintro o rfl
          simp only [execOp, resolve, h5]
          rw [← hF5]
          simp [Deferred.ofValue]
        rw [e2 _ rfl, Oper.upon_defer]
        generalize a1.eval (.tmp 2) = p at *
        generalize a1.eval (.tmp 3) = q at *
        unfold wpList
        have k1' : SR C ρ1 11 [{ target := .fn (.func 222) #[p, q], args := #[] }] T1 (({ a1.put (some 5) F5 with defers := { target := .fn (.func 222) #[p, q], args := #[] } :: (a1.put (some 5) F5).defers } : Act).put none undef) := by
          refine ⟨fun t v ht => ?_, ?_, ?_⟩
          · have hne : t ≠ 5 := by rintro rfl; rw [hT5] at ht; cases ht
            have := k1.tmps t v ht
            show VR C ρ1 v ((a1.tmps.setIfInBounds 5 F5).getD t undef)
            simp only [Array.getD_eq_getD_getElem?] at this ⊢
            rw [Array.getElem?_setIfInBounds_ne (Ne.symm hne)]; exact this
          · show 11 ≤ (a1.tmps.setIfInBounds 5 F5).size
            simpa using k1.size
          · show _ :: a1.defers = _
            rw [k1.defers]
        refine Code.wp_mono (fun e a2 w2 ⟨he, ρ2, m1, m2⟩ => ?_) ((s2 _).wp rfl ρ1 _ w1 k1' k2.wr (hG.sub hsub) (k2.fresh hf))
        have fin : bodyPostD C.P Tryz.f151 (fun e w' => ∃ v' ρ', e = .returned v' ∧ VR C ρ' (oneOf vs) v' ∧ Ext C ρ H.get c w ρ' H2.get c2 w') .ret a2 w2 := by
          show Leaves C.P Tryz.f151 a2.tmps _ a2.defers .returning w2
          rw [m1.defers]
          rw [hE] at hvs
          obtain ⟨v', r1, r2⟩ := results_sound (fn := Tryz.f151) m1 m2.wr hvs
          have hin : (invoke (.fn (.func 222) #[p, q]) #[]).run C.P w2 = .ok (.enter 222 #[p, q]) w2 := by
            show (callFunc 222 (#[] ++ #[p, q])).run C.P w2 = _
            rw [hP]
            exact MuLone.run_callFunc_enter Tryz.func222 (by kernel_rfl) rfl _ _
          refine leaves_cons (by simp) hin ?_
          rw [hP]
          refine (calm222 p q w2).mono ?_
          rintro e u' w' ⟨⟨v, rfl⟩, rfl, rfl⟩
          show Leaves _ _ _ _ [] (settle .returning) _
          rw [← hP]
          refine ⟨v', r1, v', ρ2, rfl, r2, k2.trans m2 fun b k hb hc => hW.notFresh hf b k hb ⟨Nat.le_trans hle1 hc.1, hc.2⟩⟩
        rcases hx with rfl | rfl <;> subst he <;> exact fin
      · cases h
    · cases h
  · cases h
end
end Go.Proofs.YtgljampcnbgbhaaGreatDoor.Ev
namespace Go.Proofs.YtgljampcnbgbhaaGreatDoor.Ev
open Go Go.RowKit
set_option maxRecDepth 100000

section
variable {C : Cx} {E : Env} {ρ ρ' : Ren} {H H' : Hf} {c c' : Nat} {w w' w1 : World}
/-- New blocks of which nothing is known. -/
theorem Ext.more (hW : WR C ρ H w) (hs : w.heap.size ≤ w'.heap.size) (ho : ∀ i, i < w.heap.size → w'.heap[i]? = w.heap[i]?) (h1 : w'.os = w.os) (h2 : w'.tape = w.tape) (h3 : w'.output = w.output) : Ext C ρ H c w ρ H c w' where
  le := Nat.le_refl _
  ren _ _ := rfl
  size := hs
  old i hi _ := ho i hi
  own i hi h := h
  dom b k h := .inl ⟨k, h⟩
  newRo b k _ h := by omega
  ro b k k' h h' := by rw [h] at h'; cases h'; rfl
  wr := ⟨fun b k hb => (hW.br b k hb).keep (Sub.refl ρ) fun pl hp => by
    obtain ⟨q, hq, hlt⟩ := (hW.br b k hb).place
    rw [hp] at hq; cases hq
    exact ho _ hlt, hW.inj⟩
  os := h1
  tape := h2
  output := h3
/-- A block turned of which nothing is known. -/
theorem Ext.touch (h : Ext C ρ H c w ρ' H' c' w1) {x : Nat} (o : Obj) (hx : w.heap.size ≤ x) (hn : ∀ b k pl, H' b = some k → ρ' b = some pl → pl.blk ≠ x) : Ext C ρ H c w ρ' H' c' (setObjW w1 x o) :=
  { h with
    size := by simpa [setObjW] using h.size
    old := fun i hi ho => by
      rw [← h.old i hi ho]
      simp only [setObjW]
      rw [Array.getElem?_setIfInBounds_ne (by omega)]
    wr := ⟨fun b k hb => (h.wr.br b k hb).keep (Sub.refl ρ') fun pl hp => by
      simp only [setObjW]
      rw [Array.getElem?_setIfInBounds_ne (Ne.symm (hn b k pl hb hp))], h.wr.inj⟩
    os := h.os
    tape := h.tape
    output := h.output }
/-- What was no known block's place is none later. -/
theorem Ext.place (h : Ext C ρ H c w ρ' H' c' w') (hW : WR C ρ H w) (hs : Sub ρ ρ') {x : Nat} (hx : x < w.heap.size) (hn : ∀ b k pl, H b = some k → ρ b = some pl → pl.blk ≠ x) : ∀ b k pl, H' b = some k → ρ' b = some pl → pl.blk ≠ x := by
  intro b k pl hb hp e
  cases hr : roB k with
  | false =>
    obtain ⟨b2, k2, pl2, g1, g2, g3, g4⟩ := h.own x hx ⟨b, k, pl, hb, hr, hp, e⟩
    exact hn b2 k2 pl2 g1 g3 g4
  | true =>
    rcases h.dom b k hb with ⟨y, hy⟩ | hy
    · obtain ⟨q, hq, _⟩ := (hW.br b y hy).place
      have := hs _ _ hq
      rw [hp] at this; cases this
      exact hn b y pl hy hq e
    · have := h.newRo b k hb hy
      rw [hr] at this; cases this
theorem Ext.unowned (h : Ext C ρ H c w ρ' H' c' w') {x : Nat} (hx : x < w.heap.size) (hn : ∀ b k pl, H b = some k → ρ b = some pl → pl.blk ≠ x) : w'.heap[x]? = w.heap[x]? :=
  h.old x hx fun ⟨b, k, pl, g1, _, g3, g4⟩ => hn b k pl g1 g3 g4
set_option maxHeartbeats 1000000 in
/-- A range over slices.Backward of a slice, once that function's body has been evaluated. -/
theorem range318 (hP : C.P = Tryz.prog) {G G2 : Heap} {c2 nt : Nat} {T : Tr Value} {U : Tr Value} {x : Value} {a : Act} {g : Operand} {ps : Array Tmp} {asg bd : Code} {gb : Code} {y : Ex}
    (hgb : Tryz.f318.body = some gb) (hs : ∀ ρ a w, SR C ρ 19 [] ((Tr.e : Tr Value).set 1 (some x)) a → WR C ρ G.get w → Glob ρ → Fresh ρ c c2 → gb.wp C.P (CodePost C ρ G c w 19 [] (y, U, G2, c2)) a w) (hy : y = .normal ∨ y = .ret)
    (hsr : SR C ρ nt [] T a) (hW : WR C ρ G.get w) (hG : Glob ρ) (hf : Fresh ρ c c2) (hg : ∀ v, T.get 20 = some v → v = .func (.func 318) ⟨[]⟩ ⟨[x]⟩) (hg2 : ∃ v, T.get 20 = some v) (hgo : g = .tmp 20)
    {Q : Exit → Act → World → Prop} (hQ : ∀ D ρ2 w4, w.heap.size ≤ D → D < w4.heap.size → SR C ρ2 nt [{ target := .collected D, args := #[] }] T { a with defers := { target := .collected D, args := #[] } :: a.defers } →
      Ext C ρ G.get c w ρ2 G2.get c2 w4 → w4.heap[D]? = some (.deferred (some [])) → (∀ b k pl, G2.get b = some k → ρ2 b = some pl → pl.blk ≠ D) → Q .normal { a with defers := { target := .collected D, args := #[] } :: a.defers } w4) :
    (Code.rangeFunc g ps asg bd).wp C.P Q a w := by
  obtain ⟨v20, h20⟩ := hg2
  have := hg v20 h20
  subst this hgo
  obtain ⟨x', y', he, r1, r2⟩ := (hsr.tmps 20 _ h20).func_inv
  have hx0 : x' = #[] := by
    have := r1.length
    simp at this; exact this
  subst hx0
  obtain ⟨x1, hy1, hxr⟩ : ∃ x1, y' = #[x1] ∧ VR C ρ x x1 := by
    generalize hl : y'.toList = l at r2
    cases r2 with
    | cons r t => cases t; exact ⟨_, Array.toList_inj.1 hl, r⟩
  subst hy1
  have hev : a.eval (.tmp 20) = .func (.func 318) #[] #[x1] := he
  rw [← wpIn_wide (n := 1)]
  refine wpIn_rangeFunc fun fn _ => ?_
  -- the two new blocks
  generalize hob : Obj.loop { state := .ready, pending := none, fn, tmps := a.tmps, params := ps, assign := asg, body := bd, defers := w.heap.size } = ol
  generalize hwb : (w.alloc (.deferred (some []))).alloc ol = wb
  have hsz : wb.heap.size = w.heap.size + 2 := by rw [← hwb]; show ((w.heap.push _).push _).size = _; simp
  have hold : ∀ i, i < w.heap.size → wb.heap[i]? = w.heap[i]? := fun i hi => by
    rw [← hwb]; show ((w.heap.push _).push _)[i]? = _
    rw [Array.getElem?_push_lt (by simp; omega), Array.getElem_push_lt (by omega)]; simp [hi]
  have hD : wb.heap[w.heap.size]? = some (.deferred (some [])) := by
    rw [← hwb]; show ((w.heap.push _).push _)[w.heap.size]? = _
    simp [Array.getElem?_push]
  have hl : wb.heap[w.heap.size + 1]? = some ol := by
    rw [← hwb]; show ((w.heap.push (.deferred (some []))).push _)[w.heap.size + 1]? = _
    have e : w.heap.size + 1 = (w.heap.push (.deferred (some []))).size := by simp
    rw [e]; exact Array.getElem?_push_size
  have e0 : Ext C ρ G.get c w ρ G.get c wb := Ext.more hW (by omega) hold (by rw [← hwb]; rfl) (by rw [← hwb]; rfl) (by rw [← hwb]; rfl)
  have pl0 : ∀ x, w.heap.size ≤ x → ∀ b k pl, G.get b = some k → ρ b = some pl → pl.blk ≠ x := fun x hx b k pl hb hp e => by
    obtain ⟨q, hq, hlt⟩ := (hW.br b k hb).place
    rw [hp] at hq; cases hq; omega
  refine ⟨w.heap.size + 1, [{ target := .collected w.heap.size, args := #[] }], wb, { target := .fn (.func 318) #[x1], args := #[.func (.yield (w.heap.size + 1)) #[] #[]] }, wb, 318, #[.func (.yield (w.heap.size + 1)) #[] #[], x1], wb, ?_, ?_, fun _ _ => trivial, ?_, (fun h => by cases h), ?_⟩
  · rw [← hwb, ← hob]; simp [Instr.enterLoop, Fence.wide_round]
  · simp only [rangeCall, resolve, hev]
    simp [Deferred.ofValue, Act.eval]
  · show (callFunc 318 (#[.func (.yield (w.heap.size + 1)) #[] #[]] ++ #[x1])).run C.P wb = _
    rw [hP]
    exact MuLone.run_callFunc_enter Tryz.func318 (by kernel_rfl) rfl _ _
  · rw [callsIn_wide]
    refine calls_of_wp (by rw [hP]; exact Tryz.func318) hgb ?_
    rw [Tryz.ntmps318]
    have hsr2 : SR C ρ 19 [] ((Tr.e : Tr Value).set 1 (some x)) { tmps := #[.func (.yield (w.heap.size + 1)) #[] #[], x1] ++ Array.replicate (19 - (#[.func (.yield (w.heap.size + 1)) #[] #[], x1] : Array Value).size) undef, defers := [] } := by
      refine ⟨fun t v ht => ?_, by simp, rfl⟩
      rw [Tr.get_set] at ht
      split at ht
      · rename_i e
        subst e
        simp only [Option.some.injEq] at ht
        subst ht
        have e1 : (#[.func (.yield (w.heap.size + 1)) #[] #[], x1] ++ Array.replicate (19 - (#[.func (.yield (w.heap.size + 1)) #[] #[], x1] : Array Value).size) undef : Array Value).getD 1 undef = x1 := by simp [Array.getD_eq_getD_getElem?]
        rw [e1]; exact hxr
      · rw [Tr.get_e] at ht; cases ht
    refine Code.wp_mono (fun e a3 w3 ⟨hee, ρ3, k1, k2⟩ => ?_) (hs ρ _ wb hsr2 e0.wr hG hf)
    have hsub := k2.sub hf
    have hl3 := (k2.unowned (x := w.heap.size + 1) (by omega) (pl0 _ (by omega))).trans hl
    have hD3 := (k2.unowned (x := w.heap.size) (by omega) (pl0 _ (by omega))).trans hD
    have fin : bodyPost C.P Tryz.f318 (rangePost Fence.wide 1 C.P (w.heap.size + 1) Q { a with defers := [{ target := .collected w.heap.size, args := #[] }] ++ a.defers }) .ret a3 w3 := by
      refine ⟨k1.defers, .tuple #[], results_none rfl _ _ _, ?_⟩
      subst hob
      refine ⟨none, setObjW w3 (w.heap.size + 1) (.loop { state := .exhausted, pending := none, fn, tmps := a.tmps, params := ps, assign := asg, body := bd, defers := w.heap.size }), ?_, ?_⟩
      · simp only [Instr.endLoop, Instr.getLoop, Sem.run_bind, run_getObj hl3 (fun _ _ _ h => by cases h), Result.andThen_ok, Sem.run_pure]
        rw [if_neg (by decide)]
        simp only [Sem.run_bind, Sem.run_pure, Result.andThen_ok, run_setObj hl3 (fun _ _ _ h => by cases h)]
      · have hext : Ext C ρ G.get c w ρ3 G2.get c2 w3 := e0.trans k2 (fun b k hb hc => hW.notFresh hf b k hb hc)
        have hp3 : ∀ z, w.heap.size ≤ z → z < wb.heap.size → ∀ b k pl, G2.get b = some k → ρ3 b = some pl → pl.blk ≠ z := fun z hz hz2 => k2.place e0.wr hsub hz2 (pl0 z hz)
        have := k2.size
        refine hQ w.heap.size ρ3 _ (Nat.le_refl _) (by simp [setObjW]; omega) ⟨fun t v ht => (hsr.tmps t v ht).mono hsub, hsr.size, by simp [hsr.defers]⟩ (hext.touch _ (by omega) (hp3 _ (by omega) (by omega))) ?_ (hp3 _ (by omega) (by omega))
        simp only [setObjW]
        rw [Array.getElem?_setIfInBounds_ne (by omega)]; exact hD3
    rcases hy with rfl | rfl <;> subst hee <;> exact fin
end
end Go.Proofs.YtgljampcnbgbhaaGreatDoor.Ev
namespace Go.Proofs.YtgljampcnbgbhaaGreatDoor.Ev
open Go Go.RowKit
set_option maxRecDepth 100000

section
variable {C : Cx} {E : Env}
theorem sound214 (hC : C.Good) (hE : E.P = C.P) (hF : E.F 214 = some Tryz.f214) (hF2 : E.F 318 = some Tryz.f318) (hdr : ∀ nt, DrawnOK C E nt) (hP : C.P = Tryz.prog) {call : Caller} (hcall : CallerSound C call) {args : List Value} {H : Heap} {c : Nat} {out : Out} (h : hook214 E call args H c = some out) : CallSound C 214 args H c out := by
  unfold hook214 at h
  rw [hF, hF2] at h
  simp only at h
  split at h
  case h_2 => cases h
  rename_i r0 r1 r2 r3 rf rest gb hbody hgb
  split at h
  case h_2 => cases h
  rename_i hle
  have hle := (ble_iff _ _).1 hle
  rw [lenL_eq] at hle
  simp only [Tr.ofList_eq, Tr.setK_eq] at h
  split at h
  case h_2 => cases h
  rename_i T0 H0 c0 e0
  split at h
  case h_2 => cases h
  rename_i T1 H1 c1 e1
  split at h
  case h_2 => cases h
  rename_i T2 H2 c2 e2
  split at h
  case h_2 => cases h
  rename_i T3 H3 c3 e3
  split at h
  case h_2 => cases h
  rename_i g x hT20
  split at h
  case h_2 => cases h
  rename_i hg
  have hg := (beq_iff _ _).1 hg
  subst hg
  -- the body that is ranged over
  have key : ∃ y U H4 c4, codeF E 19 (fun _ => call) 4000 none gb ((Tr.e : Tr Value).set 1 (some x)) H3 c3 = some (y, U, H4, c4) ∧ (y = .normal ∨ y = .ret) ∧ resOut E.P Tryz.f214.results.toList (codeF E 32 (fun _ => call) 4000 none rest T3 H4 c4) = some out := by
    split at h
    · rename_i U H4 c4 e4; exact ⟨_, U, H4, c4, e4, .inl rfl, h⟩
    · rename_i U H4 c4 e4; exact ⟨_, U, H4, c4, e4, .inr rfl, h⟩
    · cases h
  clear h
  obtain ⟨y, U, H4, c4, e4, hy, h⟩ := key
  obtain ⟨z, T5, H5, c5, vs, e5, hz, hvs, hout⟩ := resOut_some h
  clear h
  subst hout
  have s0 := codeF_sound (ds := []) hC hE (fun _ => hcall) (hdr 32) 4000 none r0 _ H c _ e0
  have s1 := codeF_sound (ds := []) hC hE (fun _ => hcall) (hdr 32) 4000 none r1 _ H0 c0 _ e1
  have s2 := codeF_sound (ds := []) hC hE (fun _ => hcall) (hdr 32) 4000 none r2 _ H1 c1 _ e2
  have s3 := codeF_sound (ds := []) hC hE (fun _ => hcall) (hdr 32) 4000 none r3 _ H2 c2 _ e3
  have s4 := codeF_sound (ds := []) hC hE (fun _ => hcall) (hdr 19) 4000 none gb _ H3 c3 _ e4
  have s5 := fun ds => codeF_sound (ds := ds) hC hE (fun _ => hcall) (hdr 32) 4000 none rest _ H4 c4 _ e5
  have l0 : c ≤ c0 := s0.le
  have l1 : c0 ≤ c1 := s1.le
  have l2 : c1 ≤ c2 := s2.le
  have l3 : c2 ≤ c3 := s3.le
  have l4 : c3 ≤ c4 := s4.le
  have l5 : c4 ≤ c5 := (s5 []).le
  obtain ⟨id, ps, asg, bd, hrf⟩ : ∃ id ps asg bd, rf = .block id (.rangeFunc (.tmp 20) ps asg bd) := by
    have := hbody
    simp only [Tryz.f214, Option.some.injEq, Code.seq.injEq] at this
    exact ⟨_, _, _, _, this.2.2.2.1.2.symm⟩
  subst hrf
  refine callSound_calls (by rw [hP]; exact Tryz.func214) (by kernel_rfl) hbody fun ρ w args' hv hW hG hf => ?_
  change Fresh ρ c c5 at hf
  rw [← callsIn_wide (n := 0)]
  refine callsIn_of_wp_marks (by rw [hP]; exact Tryz.func214) hbody trivial ?_
  rw [Tryz.ntmps214, wpIn_wide]
  have nf : ∀ {ci cj : Nat}, c ≤ ci → cj ≤ c5 → ∀ b k, H.get b = some k → ¬ (ci ≤ b ∧ b < cj) := fun h1 h2 b k hb hc => hW.notFresh hf b k hb ⟨by omega, by omega⟩
  refine seq_wp (s0.wp rfl ρ _ w (SR.args hv hle) hW hG (hf.mono (by omega) (by show c0 ≤ c5; omega))) fun ρ0 a0 w0 k0 x0 => ?_
  have f0 := x0.fresh hf
  have G0 := hG.sub (x0.sub (hf.mono (Nat.le_refl _) (by show c0 ≤ c5; omega)))
  refine seq_wp (s1.wp rfl ρ0 a0 w0 k0 x0.wr G0 (f0.mono (Nat.le_refl _) (by show c1 ≤ c5; omega))) fun ρ1 a1 w1 k1 x1 => ?_
  have f1 := x1.fresh f0
  have G1 := G0.sub (x1.sub (f0.mono (Nat.le_refl _) (by show c1 ≤ c5; omega)))
  refine seq_wp (s2.wp rfl ρ1 a1 w1 k1 x1.wr G1 (f1.mono (Nat.le_refl _) (by show c2 ≤ c5; omega))) fun ρ2 a2 w2 k2 x2 => ?_
  have f2 := x2.fresh f1
  have G2 := G1.sub (x2.sub (f1.mono (Nat.le_refl _) (by show c2 ≤ c5; omega)))
  refine wp_seq ?_
  refine seq_wp (s3.wp rfl ρ2 a2 w2 k2 x2.wr G2 (f2.mono (Nat.le_refl _) (by show c3 ≤ c5; omega))) fun ρ3 a3 w3 k3 x3 => ?_
  have f3 := x3.fresh f2
  have G3 := G2.sub (x3.sub (f2.mono (Nat.le_refl _) (by show c3 ≤ c5; omega)))
  have X3 : Ext C ρ H.get c w ρ3 H3.get c3 w3 := ((x0.trans x1 (nf l0 (by show c1 ≤ c5; omega))).trans x2 (nf (by show c ≤ c1; omega) (by show c2 ≤ c5; omega))).trans x3 (nf (by show c ≤ c2; omega) (by show c3 ≤ c5; omega))
  refine wp_block ?_
  refine range318 (y := y) (U := U) (G2 := H4) (c2 := c4) (c := c3) hP hgb (fun ρ a w h1 h2 h3 h4 => s4.wp rfl ρ a w h1 h2 h3 h4) hy k3 x3.wr G3 (f3.mono (Nat.le_refl _) (by show c4 ≤ c5; omega)) (fun v hv => ?_) ⟨_, hT20⟩ rfl fun D ρ4 w4 hD1 hD2 k4 x4 hD hpl => ?_
  · have hv : T3.get 20 = some v := hv
    rw [hT20] at hv; cases hv; rfl
  have f4 := x4.fresh f3
  have G4 := G3.sub (x4.sub (f3.mono (Nat.le_refl _) (by omega)))
  have X4 : Ext C ρ H.get c w ρ4 H4.get c4 w4 := X3.trans x4 (nf (by omega) (by omega))
  simp only [Exit.inBlock]
  refine Code.wp_mono (fun e a5 w5 ⟨he, ρ5, k5, x5⟩ => ?_) ((s5 _).wp rfl ρ4 _ w4 k4 x4.wr G4 f4)
  have X5 : Ext C ρ H.get c w ρ5 H5.get c5 w5 := X4.trans x5 (nf (by omega) (by omega))
  have hD5 : w5.heap[D]? = some (.deferred (some [])) := (x5.unowned hD2 hpl).trans hD
  have hwD : w.heap.size ≤ D := Nat.le_trans X3.size hD1
  have hplD := x5.place x4.wr (x5.sub f4) hD2 hpl
  have X6 : Ext C ρ H.get c w ρ5 H5.get c5 (setObjW w5 D (.deferred none)) := X5.touch _ hwD hplD
  have fin : bodyPostM Fence.wide 0 C.P Tryz.f214 (fun e w' => ∃ v' ρ', e = .returned v' ∧ VR C ρ' (oneOf vs) v' ∧ Ext C ρ H.get c w ρ' H5.get c5 w') .ret a5 w5 := by
    show LeavesInM Fence.wide 0 C.P Tryz.f214 a5.tmps _ a5.defers .returning w5
    rw [k5.defers]
    rw [hE] at hvs
    obtain ⟨v', r1, r2⟩ := results_sound (fn := Tryz.f214) k5 X6.wr hvs
    refine ⟨by simp, .inl ⟨D, setObjW w5 D (.deferred none), rfl, ?_, ⟨v', r1, v', ρ5, rfl, r2, X6⟩⟩⟩
    simp only [Instr.takeDeferred, Sem.run_bind, run_getObj hD5 (fun _ _ _ h => by cases h), Result.andThen_ok]
    simp only [Sem.run_bind, run_setObj hD5 (fun _ _ _ h => by cases h), Result.andThen_ok, Sem.run_pure]
  rcases hz with rfl | rfl <;> subst he <;> exact fin

theorem hooks_sound (hC : C.Good) (hE : E.P = C.P) (hF : Funs C E) (h151 : E.F 151 = some Tryz.f151) (h214 : E.F 214 = some Tryz.f214) (h318 : E.F 318 = some Tryz.f318) (hdr : ∀ nt, DrawnOK C E nt) (hP : C.P = Tryz.prog) (hd : C.Draws) {memo : Option Blk}
    (hm : ∀ b, memo = some b → ∀ (call : Caller) (args : List Value) (H : Heap) (c : Nat) (out : Out), hookB b call args H c = some out → CallSound C 32 args H c out) :
    ∀ f h, hooksOf E memo f = some h → ∀ (call : Caller), CallerSound C call → ∀ (args : List Value) (H : Heap) (c : Nat) (out : Out), h call args H c = some out → c ≤ out.2.2 → CallSound C f args H c out := by
  intro f h hf call hcall args H c out ho _
  unfold hooksOf at hf
  split at hf
  · rename_i e; have e := (beq_iff _ _).1 e; subst e; cases hf; exact sound45 hC hE hF hdr hP hd hcall ho
  split at hf
  · rename_i e; have e := (beq_iff _ _).1 e; subst e; cases hf; exact sound151 hC hE h151 hdr hP hcall ho
  split at hf
  · rename_i e; have e := (beq_iff _ _).1 e; subst e; cases hf; exact sound214 hC hE h214 h318 hdr hP hcall ho
  split at hf
  · rename_i e; have e := (beq_iff _ _).1 e; subst e; cases hf; exact sound261 hP ho
  split at hf
  · rename_i e; have e := (beq_iff _ _).1 e; subst e; cases hf; exact sound312 hP ho
  split at hf
  · rename_i e; have e := (beq_iff _ _).1 e; subst e; cases hf; exact sound418 hP ho
  split at hf
  · rename_i e
    have e := (beq_iff _ _).1 e
    subst e
    split at hf
    · rename_i b; cases hf; exact hm _ rfl call args H c out ho
    · cases hf
  · cases hf
end
end Go.Proofs.YtgljampcnbgbhaaGreatDoor.Ev
