/- The air over a plane on which all stations hear each other: who hears whom, what is missing, who is on (contracts). No conditions but those that each theorem names. -/
import Derived.Test.YtommamngklobkaaPw
import Derived.Test.YtommamngklobkaaOm
import Derived.LoopN
namespace Go.Proofs.Ytommamngklobkaa
open Go.RowKit
set_option linter.unusedVariables false
/-- Where an air lies: A itself, its plane (b, s, m; n stations), its two maps; the bursts lie from block K on. -/
structure Id where
  A : Nat
  b : Nat
  s : Nat
  m : Nat
  mo : Nat
  mf : Nat
  n : Nat
  K : Nat
  cs : Array Value
/-- What of an air stays as it is while it is used. -/
structure AirS (w : World) (d : Id) : Prop where
  blk : w.heap[d.A]? = some (.cells #[.pointer (some ⟨d.b, 0, none⟩), .map (some d.mo), .map (some d.mf)] 83 (0, 0))
  pl : PlW w d.b d.s d.m d.n d.cs
  st : ∀ i, i < d.n → ∃ x y, StW d.cs i ((i : Int) + 1) 0 x y 100
  fates : w.heap[d.mf]? = some (.map #[] 0)
  lo : d.A < d.K ∧ d.b < d.K ∧ d.s < d.K ∧ d.m < d.K ∧ d.mf < d.K ∧ d.mo < d.K ∧ d.K ≤ w.heap.size
  ne : d.mo ≠ d.m ∧ d.mo ≠ d.mf ∧ d.mo ≠ d.A ∧ d.mo ≠ d.b ∧ d.mo ≠ d.s
/-- Nothing below block K but block mo has turned. -/
structure Fr (K mo : Nat) (w w' : World) : Prop where
  os : w'.os = w.os
  tape : w'.tape = w.tape
  output : w'.output = w.output
  size : w.heap.size ≤ w'.heap.size
  block : ∀ i, i < w.heap.size → i < K → i ≠ mo → w'.heap[i]? = w.heap[i]?
theorem Fr.refl (K mo : Nat) (w : World) : Fr K mo w w := ⟨rfl, rfl, rfl, Nat.le_refl _, fun _ _ _ _ => rfl⟩
theorem Fr.trans {K mo : Nat} {a b c : World} (h : Fr K mo a b) (k : Fr K mo b c) : Fr K mo a c :=
  ⟨k.os.trans h.os, k.tape.trans h.tape, k.output.trans h.output, Nat.le_trans h.size k.size, fun i hi h1 h2 => (k.block i (Nat.lt_of_lt_of_le hi h.size) h1 h2).trans (h.block i hi h1 h2)⟩
theorem Fr.of_only {K mo : Nat} {L : List Nat} {w w' : World} (h : Only L w w') (hL : ∀ x ∈ L, x = mo ∨ K ≤ x) : Fr K mo w w' :=
  ⟨h.os, h.tape, h.output, h.size, fun i hi h1 h2 => h.block i hi (fun hx => by rcases hL i hx with e | e <;> omega)⟩
theorem Fr.only {K mo : Nat} {L : List Nat} {a b c : World} (h : Fr K mo a b) (ho : Only L b c) (hL : ∀ x ∈ L, x = mo ∨ K ≤ x) : Fr K mo a c := h.trans (Fr.of_only ho hL)
theorem AirS.fr {w w' : World} {d : Id} (h : AirS w d) (hf : Fr d.K d.mo w w') : AirS w' d := by
  obtain ⟨l1, l2, l3, l4, l5, l6, l7⟩ := h.lo
  obtain ⟨n1, n2, n3, n4, n5⟩ := h.ne
  have g : ∀ {i : Nat} {o : Obj}, i < d.K → i ≠ d.mo → w.heap[i]? = some o → w'.heap[i]? = some o := fun hi hn ho => (hf.block _ (heap_lt ho) hi hn).trans ho
  exact ⟨g l1 (Ne.symm n3) h.blk, ⟨g l2 (Ne.symm n4) h.pl.blk, g l3 (Ne.symm n5) h.pl.row, h.pl.pos, h.pl.size, g l4 (Ne.symm n1) h.pl.map⟩, h.st, g l5 (Ne.symm n2) h.fates, ⟨l1, l2, l3, l4, l5, l6, Nat.le_trans l7 hf.size⟩, h.ne⟩
theorem AirS.only {w w' : World} {d : Id} {L : List Nat} (h : AirS w d) (ho : Only L w w') (hL : ∀ x ∈ L, x = d.mo ∨ d.K ≤ x) : AirS w' d := h.fr (Fr.of_only ho hL)
theorem AirS.c0 {w : World} {d : Id} (h : AirS w d) : w.cell? ⟨d.A, 0, none⟩ = some (.pointer (some ⟨d.b, 0, none⟩)) := by rw [cell_of h.blk]; rfl
theorem AirS.c1 {w : World} {d : Id} (h : AirS w d) : w.cell? ⟨d.A, 1, none⟩ = some (.map (some d.mo)) := by rw [cell_of h.blk]; rfl
theorem AirS.c2 {w : World} {d : Id} (h : AirS w d) : w.cell? ⟨d.A, 2, none⟩ = some (.map (some d.mf)) := by rw [cell_of h.blk]; rfl
theorem AirS.n16 {w : World} {d : Id} (h : AirS w d) : 1 ≤ d.n ∧ d.n ≤ 16 := h.pl.pos
theorem alen34 {w : World} {d : Id} (h : AirS w d) : Calls Try.prog 34 #[.pointer (some ⟨d.b, 0, none⟩)] w fun e w' => e = .returned (.int .i64 d.n) ∧ w = w' := len34 _ _ _ _ _ w h.pl
set_option maxHeartbeats 1000000 in
/-- Nobody hears himself. -/
theorem hears22_self (b s m n j : Nat) (cs : Array Value) (w : World) (h : PlW w b s m n cs) (hj : j < n) :
    Calls Try.prog 22 #[.pointer (some ⟨b, 0, none⟩), .int .i64 ((j : Int) + 1), .int .i64 ((j : Int) + 1)] w fun e w' => e = .returned (.bool false) ∧ Only [] w w' := by
  have hn := h.new (.cells #[.int .i64 ((j : Int) + 1), .int .i64 ((j : Int) + 1)] 3)
  have k27 := has27b b s m n w.heap.size cs j j _ hn (nc20 _ _ _ _) (nc21 _ _ _ _) hj hj
  clear h hn
  go_enter Try.func22, Try.ntmps22
  go_wp2_with fail
  refine k27.mono ?_
  rintro e w1 ⟨rfl, rfl⟩
  go_wp2
  go_ret
  exact ⟨rfl, (Only.refl [] w).alloc _⟩
theorem sq_small (j i n : Nat) (hj : j < n) (hi : i < n) (hn : n ≤ 16) : (((j : Int) + 1) - ((i : Int) + 1)) * (((j : Int) + 1) - ((i : Int) + 1)) + ((0 : Int) - 0) * ((0 : Int) - 0) ≤ 100 * 100 := by
  have e : (((j : Int) + 1) - ((i : Int) + 1)) = (j : Int) - i := by omega
  rw [e]
  have : ((j : Int) - i).natAbs ≤ 16 := by omega
  have h2 : (((j : Int) - i) * ((j : Int) - i)).natAbs ≤ 16 * 16 := by rw [Int.natAbs_mul]; exact Nat.mul_le_mul this this
  omega
/-- x hears y: just if it is another one. -/
theorem hears22_air {w : World} {d : Id} (h : AirS w d) (x y : Int) (hx : 1 ≤ x ∧ x ≤ d.n) (hy : 1 ≤ y ∧ y ≤ d.n) :
    Calls Try.prog 22 #[.pointer (some ⟨d.b, 0, none⟩), .int .i64 x, .int .i64 y] w fun e w' => e = .returned (.bool (!decide (x = y))) ∧ Only [] w w' := by
  obtain ⟨j, rfl⟩ : ∃ j : Nat, x = (j : Int) + 1 := ⟨(x - 1).toNat, by omega⟩
  obtain ⟨i, rfl⟩ : ∃ i : Nat, y = (i : Int) + 1 := ⟨(y - 1).toNat, by omega⟩
  by_cases e : j = i
  · subst e
    simpa using hears22_self d.b d.s d.m d.n j d.cs w h.pl (by omega)
  · obtain ⟨x1, y1, s1⟩ := h.st j (by omega)
    obtain ⟨x2, y2, s2⟩ := h.st i (by omega)
    have hn := h.n16
    refine (hears22 d.b d.s d.m d.n j i d.cs _ _ _ _ _ _ _ _ _ _ w h.pl s1 s2 (by omega) (by omega) e (wiB_yes (by omega) (by omega)) (wiB_yes (by omega) (by omega)) (by omega) (by omega)).mono fun e' w' hh => ?_
    have hs := sq_small j i d.n (by omega) (by omega) hn.2
    rw [decide_eq_true hs] at hh
    have e2 : ¬ ((j : Int) + 1 = (i : Int) + 1) := by omega
    simpa [e2] using hh
theorem on19 {w : World} {d : Id} {S : List Int} {p : Int → Nat} (h : AirS w d) (hm : OnM w d.mo S p) (x : Int) (hx : Wf x) :
    Calls Try.prog 19 #[.pointer (some ⟨d.A, 0, none⟩), .int .i64 x] w fun e w' => e = .returned (.bool (decide (x ∈ S))) ∧ w = w' := by
  have c1 := h.c1
  by_cases hS : x ∈ S
  · have lk := hm.look_in hx hS
    rw [decide_eq_true hS]
    clear h hm hx hS
    go_enter Try.func19, Try.ntmps19
    go_wp2
    go_ret
    exact ⟨rfl, rfl⟩
  · have lk := hm.look_out hx hS
    rw [decide_eq_false hS]
    clear h hm hx hS
    go_enter Try.func19, Try.ntmps19
    go_wp2
    go_ret
    exact ⟨rfl, rfl⟩
theorem quiet18 {w : World} {d : Id} {S : List Int} {p : Int → Nat} (h : AirS w d) (hm : OnM w d.mo S p) :
    Calls Try.prog 18 #[.pointer (some ⟨d.A, 0, none⟩)] w fun e w' => e = .returned (.bool ((S.length : Int) == 0)) ∧ w = w' := by
  have c1 := h.c1
  have ln := fun ty => hm.len ty
  clear h hm
  go_enter Try.func18, Try.ntmps18
  go_wp2
  go_ret
  exact ⟨rfl, rfl⟩
theorem missing31 {w : World} {d : Id} (h : AirS w d) (q : Nat) (x : Int) (hq : w.cell? ⟨q, 0, none⟩ = some (.int .i64 x)) (hx : 1 ≤ x ∧ x ≤ d.n) :
    Calls Try.prog 31 #[.pointer (some ⟨d.A, 0, none⟩), .slice (some ⟨q, 0, none⟩) 1 1] w fun e w' => e = .returned (.int .i64 0) ∧ w = w' := by
  have c0 := h.c0
  have k := alen34 h
  have hn := h.n16
  clear h
  obtain ⟨hx0, hx1⟩ := hx
  go_enter Try.func31, Try.ntmps31
  go_wp2
  refine wp_loop_rounds 2 ?_
  rw [rounds_succ]
  go_wp2_with fail
  refine k.mono ?_
  rintro e w1 ⟨rfl, rfl⟩
  go_wp2
  rw [rounds_succ]
  go_wp2
  go_ret
  exact ⟨rfl, rfl⟩
/-- Is one on, but for one, whom j hears? -/
def hB (S : List Int) (but j : Int) : Bool := S.any fun k => !decide (k = but) && !decide (k = j)
theorem hB_yes {S : List Int} {but j k : Int} (h : k ∈ S) (h1 : ¬ k = but) (h2 : ¬ k = j) : hB S but j = true := by
  unfold hB
  exact List.any_eq_true.2 ⟨k, h, by simp [h1, h2]⟩
theorem hB_no {S : List Int} {but j : Int} (h : ∀ k ∈ S, k = but ∨ k = j) : hB S but j = false := by
  unfold hB
  rw [List.any_eq_false]
  intro k hk
  rcases h k hk with e | e <;> simp [e]
set_option maxHeartbeats 1000000 in
theorem hearsBut37 {w : World} {d : Id} {S : List Int} {p : Int → Nat} (h : AirS w d) (hm : OnM w d.mo S p) (hsub : ∀ x ∈ S, 1 ≤ x ∧ x ≤ d.n) (j but : Int) (hj : 1 ≤ j ∧ j ≤ d.n) :
    Calls Try.prog 37 #[.pointer (some ⟨d.A, 0, none⟩), .int .i64 j, .int .i64 but] w fun e w' => e = .returned (.bool (hB S but j)) ∧ Only [] w w' := by
  have c1 := h.c1
  have H := Lib.hid h
  have HS := Lib.hid hsub
  clear h hsub
  go_enter Try.func37, Try.ntmps37
  go_wp2_with (at_range; refine wpList_range_on rfl _ rfl d.mo S p rfl hm ?_; intro w1 hr1 ho1 hz1)
  go_frame
  have HM := Lib.hid hm
  clear hm hz1
  have hrl : w.heap.size ∉ ([] : List Nat) := by simp
  go_loopw [7] (fun _ wr => ∃ rem, OnR wr d.mo w.heap.size S p rem ∧ Only [] w wr ∧ Hid (∀ x ∈ S, rem x = false → x = but ∨ x = j)) (fun _ wr => wr.rangeLeft d.mo w.heap.size)
  case atStart => exact ⟨_, hr1, ho1, fun x hx hf => by simp [hx] at hf⟩
  case round =>
    clear hr1 ho1
    obtain ⟨rem, hr, ho, hv⟩ := hrel
    go_wp2_with (at_next; refine wpList_next_on rfl _ rfl d.mo w.heap.size S p rem rfl hr ?_ ?_)
    · intro hd
      have e : hB S but j = false := hB_no fun x hx => hv.out x hx (hd x)
      have E := Lib.hid e
      have O := Lib.hid ho
      clear e hd ho hr hv c1
      go_wp2
      go_ret
      exact ⟨by rw [E.out]; rfl, O.out⟩
    · intro x w1 hrx hxS hr1 hlt ho1 hz1 hen
      have hair := H.out.only (ho.trans_new ho1 (by simp)) (L := []) (by simp)
      have k22 := hears22_air hair j x hj (HS.out x hxS)
      have c0 := hair.c0
      have LT := Lib.hid hlt
      have hv1 : ∀ y ∈ S, ¬ (y = x) → (rem y && !decide (y = x)) = false → y = but ∨ y = j := fun y hy hne hf => by
        simp [hne] at hf
        exact hv.out y hy hf
      have HV := Lib.hid hv1
      have O1 := Lib.hid (ho.trans_new ho1 (by simp : ∀ x ∈ [w.heap.size], x ∈ [] ∨ w.heap.size ≤ x))
      have R1 := Lib.hid hr1
      clear hair hv hv1 ho ho1 hr hr1 hlt hz1 hrx
      by_cases e1 : x = but
      · subst e1
        clear k22
        go_wp2
        go_roundw
        case rel => exact ⟨_, R1.out, O1.out, fun y hy hf => by
          by_cases e : y = x
          · exact Or.inl e
          · exact HV.out y hy e hf⟩
        case measure => exact LT.out
      · by_cases e2 : j = x
        · subst e2
          rw [decide_eq_true rfl] at k22
          go_wp2_with fail
          refine k22.mono ?_
          rintro e w2 ⟨rfl, ho2⟩
          have O2 := Lib.hid (O1.out.trans ho2)
          have R2 := Lib.hid (R1.out.only ho2 (by simp) (by simp))
          have L2 := Lib.hid (R1.out.left_only ho2 (by simp) (by simp))
          clear ho2 k22
          go_wp2
          go_roundw
          case rel => exact ⟨_, R2.out, O2.out, fun y hy hf => by
            by_cases e : y = j
            · exact Or.inr e
            · exact HV.out y hy e hf⟩
          case measure => rw [L2.out]; exact LT.out
        · rw [decide_eq_false e2] at k22
          have E := Lib.hid (hB_yes hxS e1 (Ne.symm e2))
          clear e2
          go_wp2_with fail
          refine k22.mono ?_
          rintro e w2 ⟨rfl, ho2⟩
          have O2 := Lib.hid (O1.out.trans ho2)
          clear ho2 k22
          go_wp2
          go_ret
          exact ⟨by rw [E.out]; rfl, O2.out⟩
theorem hears21 {w : World} {d : Id} {S : List Int} {p : Int → Nat} (h : AirS w d) (hm : OnM w d.mo S p) (hsub : ∀ x ∈ S, 1 ≤ x ∧ x ≤ d.n) (j : Int) (hj : 1 ≤ j ∧ j ≤ d.n) :
    Calls Try.prog 21 #[.pointer (some ⟨d.A, 0, none⟩), .int .i64 j] w fun e w' => e = .returned (.bool (hB S 0 j)) ∧ Only [] w w' := by
  have k := hearsBut37 h hm hsub j 0 hj
  clear h hm hsub hj
  go_enter Try.func21, Try.ntmps21
  go_wp2_with fail
  refine k.mono ?_
  rintro e w1 ⟨rfl, ho⟩
  have O := Lib.hid ho
  clear ho k
  go_wp2
  go_ret
  exact ⟨rfl, O.out⟩
end Go.Proofs.Ytommamngklobkaa
