/- The missing ones of the reference's window of package seq (contract): what is returned. No conditions but those that each theorem names. -/
import Derived.Test.YtfloemimimkgaaaRf
import Derived.Deep.AppendLies
import Derived.IntWalk
namespace Go.Proofs.Ytfloemimimkgaaa
open Go.RowKit Go.Maps
set_option linter.unusedVariables false
theorem step_append_row {w : World} {ops : Array Oper} {o : Oper} {a : Act} {K : Act → World → Prop} {Q : Exit → Act → World → Prop} {E : Prop} (hgd : o.guard = none) (s x : Operand)
    (ho : o.op = .call { callee := .builtin .append, args := #[s, x], argTypes := #[22, 22] }) (base : Nat) (v : Value) (xs : List Int) (y : Int) (B : Nat) (hs : a.eval s = v) (hown : RowI w base v xs)
    (hx : a.eval x = .slice (some ⟨B, 0, none⟩) 1 1) (hB : w.heap[B]? = some (.cells #[.int .i64 y] 3 (0, 0))) (hlen : xs.length ≤ 10000) (hbase : base ≤ w.heap.size)
    (h : ∀ v' w', RowI w' base v' (xs ++ [y]) → w.grownBy w' v.ownBlock → K (a.put o.dst v') w') :
    if Region.wanted o (yielded ops a.tmps) = true then Oper.wp Try.prog o a w K Q else E := by
  obtain ⟨i0, hi, hz0, hz1, hz2⟩ := info_parts i3
  refine step_append_lies _ hgd s x 22 ho base 3 i0 (.int .i64 0) 1 8 Try.underlying22 hi hz0 hz1 hz2 rfl (by decide) v xs.length _ hs hown ⟨B, 0, none⟩ 1 1 [.int .i64 y] hx rfl (World.news_of_block (cs := #[.int .i64 y]) (t := 3) (fr := (0, 0)) hB) (ints_oneCell .i64 [y]) (by omega) (by unfold maxLen; omega) (by omega) hbase w.heap.size rfl ?_
  intro g cap w' h1 h2 _ _
  refine h _ w' ?_ h2
  unfold RowI
  simpa using h1
theorem RefIn.grown {w w' : World} {b : Nat} {m k vr : Int} {f : Nat → Bool} {r : Option Nat} (h : RefIn w b m k vr f) (hg : w.grownBy w' r) (base : Nat) (hr : ∀ k, r = some k → base ≤ k) (hb : b < base) : RefIn w' b m k vr f := by
  cases r with
  | none => exact h.only ((Only.refl [] w).grown hg (fun k hk => by cases hk)) (by simp)
  | some g => have := hr g rfl; exact h.only ((Only.refl [g] w).grown hg (fun k hk => by cases hk; simp)) (by simp; omega)
theorem RowI.empty (w : World) (base : Nat) (hb : base ≤ w.heap.size) : RowI (w.alloc (.cells #[] 3)) base (.slice (some ⟨w.heap.size, 0, none⟩) 0 0) [] :=
  ⟨rfl, Or.inr ⟨w.heap.size, 0, #[], rfl, hb, heap_new w _, by simp, by simp, by simp, by simp⟩⟩
/-- The farthest that came, of the first n; and those that are missing among the first n. -/
def lastF (f : Nat → Bool) : Nat → Int
  | 0 => -1
  | n + 1 => if f n = true then n else lastF f n
def missF (m vr : Int) (f : Nat → Bool) : Nat → List Int
  | 0 => []
  | n + 1 => if f n = true then missF m vr f n else missF m vr f n ++ [(vr + n) % m]
theorem lastF_bd (f : Nat → Bool) (n : Nat) : -1 ≤ lastF f n ∧ lastF f n < n := by
  induction n with
  | zero => simp [lastF]
  | succ n ih => simp only [lastF]; split <;> omega
theorem missF_len (m vr : Int) (f : Nat → Bool) (n : Nat) : (missF m vr f n).length ≤ n := by
  induction n with
  | zero => simp [missF]
  | succ n ih =>
    simp only [missF]
    split
    · omega
    · rw [List.length_append, List.length_singleton]; omega
def MissPost (w : World) (xs : List Int) (e : Ending) (w' : World) : Prop := ∃ v, e = .returned v ∧ RowI w' w.heap.size v xs ∧ Below w.heap.size w w'
set_option maxHeartbeats 4000000 in
theorem rmiss37 (b : Nat) (m k vr : Int) (f : Nat → Bool) (w : World) (h : RefIn w b m k vr f) (hm0 : 8 ≤ m) (hm1 : m ≤ 128) (hv0 : 0 ≤ vr) (hv1 : vr ≤ 100000) :
    Calls Try.prog 37 #[.pointer (some ⟨b, 0, none⟩)] w (MissPost w (missF m vr f (lastF f 128).toNat)) := by
  have H := Lib.hid h
  have hL := lastF_bd f 128
  have HL := Lib.hid hL
  clear h hL
  go_enter Try.func37, Try.ntmps37
  go_wp2
  go_loop [3, 4] (fun a i => ∃ j : Nat, j ≤ 128 ∧ i = .int .i64 j ∧ a = .int .i64 (lastF f j)) (fun _ i => 128 - (intOf i).toNat)
  case atStart => exact ⟨0, by omega, rfl, rfl⟩
  case round =>
    obtain ⟨j, hj, rfl, rfl⟩ := hrel
    have hcj := lastF_bd f j
    by_cases hlt : (j : Int) < 128
    · have hc := H.out.cc j (by omega)
      cases hf : f j
      · rw [hf] at hc
        have hst : lastF f (j + 1) = lastF f j := by simp [lastF, hf]
        have HST := Lib.hid hst
        clear hst hf
        go_wp2
        go_round
        case rel => exact ⟨j + 1, by omega, by go_num, by rw [HST.out]⟩
        case measure => simp [intOf]; omega
      · rw [hf] at hc
        have hst : lastF f (j + 1) = j := by simp [lastF, hf]
        have HST := Lib.hid hst
        clear hst hf
        go_wp2
        go_round
        case rel => exact ⟨j + 1, by omega, by go_num, by rw [HST.out]⟩
        case measure => simp [intOf]; omega
    · obtain rfl : j = 128 := by omega
      clear hlt hcj
      have hl := HL.out
      generalize lastF f 128 = la at *
      go_wp2
      go_loopg [5, 6] la.toNat (fun n v i wr => ∃ j : Nat, j + n = la.toNat ∧ i = .int .i64 j ∧ RowI wr w.heap.size v (missF m vr f j) ∧ Below w.heap.size w wr)
      case atStart => exact ⟨0, by omega, rfl, RowI.empty _ _ (Nat.le_refl _), below_new _ _⟩
      case round =>
        obtain ⟨j, hj, rfl, hrow, hb⟩ := hrel
        have hr := H.out.below hb
        have hlen := missF_len m vr f j
        by_cases hlt : (j : Int) < la
        · have hj2 : j < 128 := by omega
          have hc := hr.cc j hj2
          have hjla : j + 1 ≤ la.toNat := by omega
          cases hf : f j
          · rw [hf] at hc
            have hst : missF m vr f (j + 1) = missF m vr f j ++ [(vr + j) % m] := by simp [missF, hf]
            have HST := Lib.hid hst
            have c0 := hr.c0
            have c2 := hr.c2
            clear hst hf
            go_wp2_with fail
            have hbase := hb.size
            have hx0 : 0 ≤ (vr + j) % m := Int.emod_nonneg _ (by omega)
            have ws : IntKind.i64.wrap (vr + (j : Int)) = vr + j := IntWalk.i64_in _ (by omega)
            have ws0 : 0 ≤ vr + (j : Int) := by omega
            have wm : ¬ (m = 0) := by omega
            have wt : (vr + (j : Int)).tmod m = (vr + j) % m := Int.tmod_eq_emod_of_nonneg ws0
            have wt2 : IntKind.i64.wrap ((vr + (j : Int)) % m) = (vr + j) % m := IntWalk.i64_in _ (by have := Int.emod_lt_of_pos (vr + (j : Int)) (by omega : 0 < m); omega)
            go_region_held3 (fun w' => w'.cell? ⟨b, 0, none⟩ = some (.int .i64 m) ∧ w'.cell? ⟨b, 2, none⟩ = some (.int .i64 vr))
              (first | exact ⟨c0, c2⟩ | exact ⟨hq.c0, hq.c2⟩ | go_keep)
              ((refine step_append_row (w := (wr.alloc (.cells #[.int .i64 ((vr + j) % m)] 3)).drew) (by rfl) _ _ (by rfl) w.heap.size u5 (missF m vr f j) ((vr + j) % m) wr.heap.size (by rfl) (hrow.only ((Only.refl [] wr).alloc _).drew (by simp)) (by rfl) (heap_new wr _) (by omega) (by simp; omega) ?_; intro v' w1 hr1 hg1; have hq := (hr.only ((Only.refl [] wr).alloc (.cells #[.int .i64 ((vr + j) % m)] 3)).drew (by simp)).grown hg1 w.heap.size hrow.own H.out.lt))
            have hrow2 : RowI w1 w.heap.size v' (missF m vr f (j + 1)) := by rw [HST.out]; exact hr1
            have hb2 : Below w.heap.size w w1 := (hb.alloc hbase (.cells #[.int .i64 ((vr + j) % m)] 3)).drew.grown hg1 (by simp; omega) hrow.own
            clear hr1 hg1 hq wm ws wt wt2 c0 c2
            go_wp2
            go_roundg (gk - 1)
            case measure => omega
            case rel => exact ⟨j + 1, by omega, by go_num, hrow2, hb2⟩
          · rw [hf] at hc
            have hst : missF m vr f (j + 1) = missF m vr f j := by simp [missF, hf]
            have hrow2 : RowI wr w.heap.size u5 (missF m vr f (j + 1)) := by rw [hst]; exact hrow
            clear hst hf
            go_wp2
            go_roundg (gk - 1)
            case measure => omega
            case rel => exact ⟨j + 1, by omega, by go_num, hrow2, hb⟩
        · have hjla : j = la.toNat := by omega
          rw [hjla] at hrow
          clear hjla
          go_wp2
          go_ret
          exact ⟨u5, rfl, hrow, hb⟩
end Go.Proofs.Ytfloemimimkgaaa
