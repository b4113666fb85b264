/- A tick's second and third loops: what a round leaves (in plain Lean over memory); one slice of what came appended to another. No conditions but those that each theorem names. -/
import Derived.Test.YtommamngklobkaaTj
import Derived.Laws.AppendOwnNone
namespace Go.Proofs.Ytommamngklobkaa
open Go.RowKit
set_option linter.unusedVariables false
theorem gcells_one (gs : List G) : ∀ u ∈ gs.flatMap G.cells, u.oneCell' = true := by
  intro u hu
  obtain ⟨g, _, hg⟩ := List.mem_flatMap.1 hu
  simp [G.cells] at hg
  rcases hg with rfl | rfl | rfl | rfl <;> rfl
theorem gcells_len (gs : List G) : (gs.flatMap G.cells).length = gs.length * 4 := by
  induction gs with
  | nil => rfl
  | cons g r ih => simp only [List.flatMap_cons, List.length_append, List.length_cons, ih]; show 4 + _ = _; omega
theorem GotR.shape {w : World} {base : Nat} {v : Value} {gs : List G} (h : GotR w base v gs) : (v = .slice none 0 0 ∧ gs = []) ∨ ∃ g cap, v = .slice (some ⟨g, 0, none⟩) gs.length cap ∧ base ≤ g ∧ (∃ cur, w.heap[g]? = some (.cells cur 48 (0, 0))) ∧ gs.length ≤ cap ∧ cap ≤ maxLen ∧ ∀ j u, (gs.flatMap G.cells)[j]? = some u → w.cell? ((⟨g, 0, none⟩ : Addr).add j) = some u := by
  obtain ⟨h1, ⟨rfl, h0⟩ | ⟨g, cap, cur, rfl, hg, hh, r1, r2, r3, r4⟩⟩ := h
  · exact Or.inl ⟨rfl, List.eq_nil_of_length_eq_zero h0⟩
  · exact Or.inr ⟨g, cap, rfl, hg, ⟨cur, hh⟩, r1, r2, World.ownsRow.cells (g := g) ⟨h1, Or.inr ⟨g, cap, cur, rfl, hg, hh, r1, r2, r3, r4⟩⟩ rfl⟩
theorem wpList_append_gots {w0 : World} {ops : Array Oper} {rest : List Oper} {o : Oper} {a : Act} {Q : Exit → Act → World → Prop} (hgd : o.guard = none) (s x : Operand)
    (ho : o.op = .call { callee := .builtin .append, args := #[s, x], argTypes := #[45, 45] }) (base base2 : Nat) (v v2 : Value) (gs gs2 : List G) (hs : a.eval s = v) (hown : GotR w0 base v gs)
    (hx : a.eval x = v2) (hown2 : GotR w0 base2 v2 gs2) (hlen : gs.length + gs2.length ≤ 10000) (hbase : base ≤ w0.heap.size)
    (h : ∀ v' w', GotR w' base v' (gs ++ gs2) → w0.grownBy w' v.ownBlock → wpList Try.prog ops Q rest (a.put o.dst v') w') :
    wpList Try.prog ops Q (o :: rest) a w0 := by
  obtain ⟨i0, hi, hz0, hz1, hz2⟩ := info_parts i48
  rcases hown2.shape with ⟨rfl, rfl⟩ | ⟨g, cap, rfl, _, _, hcap, hmax, hc⟩
  · exact wpList_append_own_none hgd s x 45 ho base 48 i0 4 Try.underlying45 hi v gs.length _ hs hown hx (h v w0 (by simpa using hown) ⟨rfl, rfl, rfl, Nat.le_refl _, fun _ _ _ => rfl⟩)
  · refine wpList_append_own _ hgd s x 45 ho base 48 i0 _ 4 40 Try.underlying45 hi hz0 hz1 hz2 rfl (by decide) v gs.length _ hs hown ⟨g, 0, none⟩ gs2.length cap (gs2.flatMap G.cells) hx (gcells_len gs2) hc (gcells_one gs2) (by unfold maxLen; omega) (by omega) hbase ?_
    intro v' w' h1 h2 _
    refine h v' w' ?_ h2
    unfold GotR
    simpa [List.flatMap_append] using h1
/-- A burst behind a tick's second loop; and what came of it. -/
def stepped (B : Bu) : Bu :=
  if 0 < B.lead then { B with lead := B.lead - 1 } else
  match B.fr with
  | [] => { B with tail := B.tail - 1 }
  | s :: r => if B.done < longI s then B else sentBu r B
def outB (n : Nat) (x : Int) (B : Bu) : List G :=
  if 0 < B.lead then [] else
  match B.fr with
  | [] => []
  | s :: _ => if B.done < longI s then [] else outL x B.cf s n
theorem outB_len (n : Nat) (x : Int) (B : Bu) : (outB n x B).length ≤ n := by
  unfold outB
  split
  · simp
  · split
    · simp
    · split
      · simp
      · exact outL_len _ _ _ _
def outsK (n : Nat) (S : List Int) (C : Int → Bu) : Nat → List G
  | 0 => []
  | k + 1 => outsK n S C k ++ if ((k : Int) + 1) ∈ S then outB n ((k : Int) + 1) (C ((k : Int) + 1)) else []
theorem outsK_len (n : Nat) (S : List Int) (C : Int → Bu) (k : Nat) : (outsK n S C k).length ≤ n * k := by
  induction k with
  | zero => simp [outsK]
  | succ k ih =>
    simp only [outsK, List.length_append]
    have : (if ((k : Int) + 1) ∈ S then outB n ((k : Int) + 1) (C ((k : Int) + 1)) else []).length ≤ n := by
      split
      · exact outB_len _ _ _
      · simp
    rw [Nat.mul_succ]; omega
/-- The family behind the first k stations. -/
def fam (C : Int → Bu) (k : Nat) : Int → Bu := fun y => if y ≤ k then stepped (C y) else C y
theorem fam_zero (C : Int → Bu) (S : List Int) (n : Nat) (h : ∀ x ∈ S, 1 ≤ x ∧ x ≤ (n : Int)) : ∀ x ∈ S, C x = fam C 0 x := fun x hx => by
  unfold fam; rw [if_neg (by have := h x hx; omega)]
theorem fam_at (C : Int → Bu) (k : Nat) : fam C k ((k : Int) + 1) = C ((k : Int) + 1) := by unfold fam; rw [if_neg (by omega)]
theorem fam_out (C : Int → Bu) (S : List Int) (k : Nat) (h : ((k : Int) + 1) ∉ S) : ∀ x ∈ S, fam C k x = fam C (k + 1) x := fun x hx => by
  unfold fam
  have hne : x ≠ (k : Int) + 1 := fun e => h (e ▸ hx)
  by_cases e : x ≤ (k : Int)
  · rw [if_pos e, if_pos (by omega)]
  · rw [if_neg e, if_neg (by omega)]
theorem fam_step (C : Int → Bu) (k : Nat) : (fun y => if y = (k : Int) + 1 then stepped (C ((k : Int) + 1)) else fam C k y) = fam C (k + 1) := by
  funext y
  unfold fam
  by_cases e : y = (k : Int) + 1
  · subst e; rw [if_pos rfl, if_pos (by omega)]
  · rw [if_neg e]
    by_cases e2 : y ≤ (k : Int)
    · rw [if_pos e2, if_pos (by omega)]
    · rw [if_neg e2, if_neg (by omega)]
/-- A burst before the second loop: as it may be. -/
structure Ready (B : Bu) : Prop where
  ok : BuOk B
  q : ∃ q, B.q = some q
  left : B.lead = 0 → B.fr = [] → 1 ≤ B.tail
theorem Ready.stepped {B : Bu} (h : Ready B) : BuOk (stepped B) := by
  unfold Ytommamngklobkaa.stepped
  split
  · exact ⟨by show 0 ≤ B.lead - 1 ∧ B.lead - 1 ≤ 255; have := h.ok.lead; omega, h.ok.tail, h.ok.done, h.ok.len, h.ok.fr⟩
  · rename_i hl
    split
    · rename_i hf
      have h1 := h.left (by have := h.ok.lead; omega) hf
      exact ⟨h.ok.lead, by show 0 ≤ B.tail - 1 ∧ B.tail - 1 ≤ 255; have := h.ok.tail; omega, h.ok.done, h.ok.len, h.ok.fr⟩
    · rename_i s r hf
      split
      · have := h.ok; exact this
      · have := h.ok.len; have h2 := h.ok.fr
        rw [hf] at this h2
        exact ⟨h.ok.lead, h.ok.tail, by show (0 : Int) ≤ 0 ∧ (0 : Int) ≤ 20; omega, by show r.length ≤ 7; simp at this; omega, fun t ht => h2 t (by simp; exact Or.inr ht)⟩
theorem stepped_q (B : Bu) : (stepped B).q = B.q := by
  unfold stepped
  split
  · rfl
  · split
    · rfl
    · split <;> rfl
/-- A round of the second loop in which the burst of station k + 1 was turned. -/
theorem round2 {w w' : World} {d : Id} {S : List Int} {p : Int → Nat} {M : Nat} {C : Int → Bu} {k : Nat} {L : List Nat} (A : AirW w d S p (fun _ => M) (fam C k)) (hx : ((k : Int) + 1) ∈ S) (hr : Ready (C ((k : Int) + 1)))
    (ho : Only L w w') (hL : ∀ y ∈ L, y = p ((k : Int) + 1)) (hb : BuW w' (p ((k : Int) + 1)) M (stepped (C ((k : Int) + 1)))) :
    AirW w' d S p (fun _ => M) (fam C (k + 1)) ∧ Fr d.K d.mo w w' := by
  have h1 := A.upd hx ho (fun y hy => Or.inl (hL y hy)) hb hr.stepped (fun q e => Or.inl (by rw [fam_at, ← stepped_q]; exact e))
  rw [fam_step] at h1
  exact ⟨h1.congr (fun y hy => by simp) (fun _ _ => rfl), A.fr hx ho (fun y hy => Or.inl (hL y hy))⟩
/-- A row of what came has grown: the air stays. -/
theorem AirW.row {w w' : World} {d : Id} {S : List Int} {p : Int → Nat} {N : Int → Nat} {B : Int → Bu} {v : Value} {gs : List G} {base : Nat} (h : AirW w d S p N B) (hv : GotR w base v gs) (hg : w.grownBy w' v.ownBlock) (hK : d.K ≤ base) :
    AirW w' d S p N B ∧ Fr d.K d.mo w w' := by
  rcases hv.shape with ⟨rfl, _⟩ | ⟨g, cap, rfl, hb, ⟨cur, hh⟩, _⟩
  · have ho : Only [] w w' := (Only.refl [] w).grown hg (fun k hk => by cases hk)
    exact ⟨h.same ho, Fr.of_only ho (by simp)⟩
  · have ho : Only [g] w w' := (Only.refl [g] w).grown hg (fun k hk => by cases hk; simp)
    exact ⟨h.other ho (by omega) (fun c f e => absurd (heap_type hh e) (by decide)) (fun c f e => absurd (heap_type hh e) (by decide)) (fun es c e => by rw [hh] at e; cases e), Fr.of_only ho (fun y hy => Or.inr (by rw [show y = g by simpa using hy]; omega))⟩
theorem BuW.setCell {w : World} {p N o : Nat} {B B' : Bu} {x : Value} (h : BuW w p N B) (hv : ∀ v, (bcells B v).setIfInBounds o x = bcells B' v) (hf : B'.fr = B.fr) (hq : B'.q = B.q) (hcf : B'.cf = B.cf) : BuW (w.setCell ⟨p, o, none⟩ x) p N B' ∧ Only [p] w (w.setCell ⟨p, o, none⟩ x) := by
  have ho : Only [p] w (w.setCell ⟨p, o, none⟩ x) := (Only.refl [p] w).setCell (by simp) _
  obtain ⟨v, h1, h2⟩ := h.blk
  refine ⟨⟨⟨v, by rw [← hv v]; exact heap_set h1 o x, ?_⟩, fun e => ?_, fun q e => ?_⟩, ho⟩
  · rw [hf]; exact h2.only ho (fun y hy => by rw [show y = p by simpa using hy]; exact h.nostr)
  · rw [hcf]; exact h.cl0 (by rw [← hq]; exact e)
  · rw [hcf]
    rw [hq] at e
    exact (h.cl1 q e).only ho (fun hm => h.p_ne (q := q) (h.cl1 q e) (by simpa using Eq.symm (show q = p by simpa using hm)))
end Go.Proofs.Ytommamngklobkaa
