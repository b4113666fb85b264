/- The reference's Take of package seq (contract): what it returns and leaves, by the taker's words. No conditions but those that each theorem names. -/
import Derived.Test.YtfloemimimkgaaaPm
namespace Go.Proofs.Ytfloemimimkgaaa
open Go.RowKit Go.Maps
set_option linter.unusedVariables false
def shf (f : Nat → Bool) : Nat → Bool := fun j => if j < 127 then f (j + 1) else f j
def part (f : Nat → Bool) (i : Nat) : Nat → Bool := fun j => if j < i then f (j + 1) else f j
theorem cnt_congr {f g : Nat → Bool} (n : Nat) (h : ∀ i, i < n → f i = g i) : cnt f n = cnt g n := by
  induction n with
  | zero => rfl
  | succ n ih => simp only [cnt]; rw [ih (fun i hi => h i (by omega)), h n (by omega)]
theorem cnt_shift (f : Nat → Bool) (n : Nat) (hn : n ≤ 127) : cnt (shf f) n + (if f 0 = true then 1 else 0) = cnt f (n + 1) := by
  induction n with
  | zero => simp [cnt]
  | succ n ih =>
    have e : shf f n = f (n + 1) := by unfold shf; rw [if_pos (by omega)]
    have := ih (by omega)
    simp only [cnt] at this ⊢
    rw [e]; omega
theorem cnt_upd (f : Nat → Bool) (d n : Nat) (hf : f d = false) : cnt (upd f d true) n = cnt f n + (if d < n then 1 else 0) := by
  induction n with
  | zero => simp [cnt]
  | succ n ih =>
    simp only [cnt]
    rw [ih]
    by_cases e : n = d
    · subst e; simp [upd, hf]
    · have : upd f d true n = f n := by simp [upd, e]
      rw [this]
      by_cases h1 : d < n
      · rw [if_pos h1, if_pos (by omega : d < n + 1)]; omega
      · rw [if_neg h1, if_neg (by omega : ¬ d < n + 1)]; omega
theorem mod_apart {m V i j : Int} (hm : m = 8 ∨ m = 128) (hi : 0 ≤ i) (hi2 : i < m) (hj : 0 ≤ j) (hj2 : j < m) (h : i ≠ j) : (V + i) % m ≠ (V + j) % m := by
  rcases hm with rfl | rfl <;> omega
theorem RelS.shift {m k V : Int} {f : Nat → Bool} {S : List Int} (h : RelS m k V f S) (hm : m = 8 ∨ m = 128) (hk : k ≤ m / 2) (hn : S.Nodup) (h0 : f 0 = true) : RelS m k (V + 1) (shf f) (S.erase (V % m)) := by
  have hmem0 : V % m ∈ S := by
    have := h.mem 0 (by omega)
    rw [h0] at this
    simpa using this.symm
  refine ⟨fun i hi => ?_, fun i hi => ?_, ?_⟩
  · by_cases hi2 : ((i + 1 : Nat) : Int) < m
    · have e : shf f i = f (i + 1) := by unfold shf; rw [if_pos (by omega)]
      rw [e, h.mem (i + 1) hi2]
      have ha : (V + ((i + 1 : Nat) : Int)) % m ≠ (V + 0) % m := mod_apart hm (by omega) hi2 (by omega) (by omega) (by omega)
      rw [Int.add_zero] at ha
      have e2 : (V + 1 + (i : Int)) % m = (V + ((i + 1 : Nat) : Int)) % m := by congr 1; omega
      rw [e2]
      generalize (V + ((i + 1 : Nat) : Int)) % m = y at *
      rw [decide_eq_decide, List.mem_erase_of_ne ha]
    · have e1 : shf f i = false := by
        unfold shf
        by_cases h1 : i < 127
        · rw [if_pos h1]; exact h.out (i + 1) (by omega)
        · rw [if_neg h1]; exact h.out i (by omega)
      have e2 : (V + 1 + (i : Int)) % m = V % m := by rw [show V + 1 + (i : Int) = V + m by omega]; rcases hm with rfl | rfl <;> omega
      rw [e1, e2]
      simp [hn.not_mem_erase]
  · unfold shf
    by_cases h1 : i < 127
    · rw [if_pos h1]; exact h.out (i + 1) (by omega)
    · rw [if_neg h1]; exact h.out i hi
  · rw [List.length_erase_of_mem hmem0, h.len]
    have h1 := cnt_shift f 127 (by omega)
    rw [if_pos h0] at h1
    have h2 : shf f 127 = false := by unfold shf; rw [if_neg (by omega)]; exact h.out 127 (by omega)
    have h3 : cnt (shf f) 128 = cnt (shf f) 127 := by simp [cnt, h2]
    rw [h3]
    have h4 : cnt f (127 + 1) = cnt f 128 := rfl
    omega
theorem RelS.put {m k V : Int} {f : Nat → Bool} {S : List Int} (h : RelS m k V f S) (hm : m = 8 ∨ m = 128) (hk : k ≤ m / 2) (d : Nat) (hd : (d : Int) < k) (hf : f d = false) : RelS m k V (upd f d true) (((V + d) % m) :: S) := by
  refine ⟨fun i hi => ?_, fun i hi => ?_, ?_⟩
  · by_cases e : i = d
    · subst e; simp [upd]
    · have : upd f d true i = f i := by simp [upd, e]
      rw [this, h.mem i hi]
      have ha : (V + (i : Int)) % m ≠ (V + (d : Int)) % m := mod_apart hm (by omega) hi (by omega) (by omega) (by omega)
      simp [ha]
  · have : i ≠ d := by omega
    simp [upd, this]; exact h.out i hi
  · rw [cnt_upd f d 128 hf, if_pos (by omega)]
    simp [h.len]
def RTakePost (w : World) (b : Nat) (m k : Int) (r : List Int) (en V : Int) (f : Nat → Bool) (e : Ending) (w' : World) : Prop :=
  ∃ v, e = .returned (.tuple #[v, .int .i64 en]) ∧ RowI w' w.heap.size v r ∧ RefIn w' b m k V f ∧ Only [b] w w'
set_option maxHeartbeats 2000000 in
theorem rtake_bad (b : Nat) (m k V ns : Int) (f : Nat → Bool) (w : World) (h : RefIn w b m k V f) (hns : ns < 0 ∨ m ≤ ns) :
    Calls Try.prog 33 #[.pointer (some ⟨b, 0, none⟩), .int .i64 ns] w (RTakePost w b m k [] 1 V f) := by
  have H := Lib.hid h
  have c0 := (h.only ((Only.refl [] w).alloc (.cells #[] 3)) (by simp)).c0
  clear h
  by_cases h1 : ns < 0
  · clear hns
    go_enter Try.func33, Try.ntmps33
    go_wp2
    go_ret2
    exact ⟨_, rfl, RowI.empty _ _ (Nat.le_refl _), H.out.only ((Only.refl [] w).alloc (.cells #[] 3)) (by simp), (Only.refl _ w).alloc _⟩
  · have h2 : m ≤ ns := by omega
    clear hns
    go_enter Try.func33, Try.ntmps33
    go_wp2
    go_ret2
    exact ⟨_, rfl, RowI.empty _ _ (Nat.le_refl _), H.out.only ((Only.refl [] w).alloc (.cells #[] 3)) (by simp), (Only.refl _ w).alloc _⟩
theorem far24q {m a c r : Int} (h : farI m a c = r) (w : World) (n : Nat) : Calls Try.prog 24 #[.int .i64 m, .int .i64 a, .int .i64 c] (w.drewN n) fun e w' => e = .returned (.int .i64 r) ∧ ∃ m, w' = w.drewN m :=
  Calls.quiet_of_same ((far24 m a c _).mono fun _ _ q => ⟨by rw [← h]; exact q.1, q.2.symm⟩)
set_option maxHeartbeats 4000000 in
set_option maxRecDepth 100000 in
theorem rtake_no (b : Nat) (m k V ns : Int) (f : Nat → Bool) (w : World) (h : RefIn w b m k V f) (hm : m = 8 ∨ m = 128) (hV : 0 ≤ V) (hV1 : V ≤ 100000) (h0 : 0 ≤ ns) (h1 : ns < m) (D : Nat) (hD : farI m (V % m) ns = D) (hD2 : (D : Int) < m) (en : Int)
    (hen : (f D = true ∧ en = 8) ∨ (f D = false ∧ k ≤ D ∧ en = 7)) :
    Calls Try.prog 33 #[.pointer (some ⟨b, 0, none⟩), .int .i64 ns] w (RTakePost w b m k [] en V f) := by
  have H := Lib.hid h
  have hq := h.only ((Only.refl [] w).alloc (.cells #[] 3)) (by simp)
  have c0 := hq.c0
  have c1 := hq.c1
  have c2 := hq.c2
  have hcc := hq.cc D (by omega)
  have wm : ¬ (m = 0) := by omega
  have wt : V.tmod m = V % m := Int.tmod_eq_emod_of_nonneg hV
  have wt2 : IntKind.i64.wrap (V % m) = V % m := IntWalk.i64_in _ (by have := Int.emod_lt_of_pos V (by omega : 0 < m); have := Int.emod_nonneg V (by omega : m ≠ 0); omega)
  have hDn : (D : Int) < 128 := by omega
  have K24 := Lib.hid (far24q hD)
  have HM := Lib.hid hm
  clear h hq hD hm
  rcases hen with ⟨hf, rfl⟩ | ⟨hf, hk, rfl⟩
  · rw [hf] at hcc
    clear hf
    go_enter Try.func33, Try.ntmps33
    go_wp2_with fail
    go_quiet ((go_at_call 24; exact K24.out _ _))
    clear wm wt wt2
    go_wp2_with fail
    go_ret2
    exact ⟨_, rfl, (RowI.empty w _ (Nat.le_refl _)).drewN nq, (H.out.only ((Only.refl [] w).alloc (.cells #[] 3)) (by simp)).drewN nq, ((Only.refl _ w).alloc _).drewN nq⟩
  · rw [hf] at hcc
    clear hf
    go_enter Try.func33, Try.ntmps33
    go_wp2_with fail
    go_quiet ((go_at_call 24; exact K24.out _ _))
    clear wm wt wt2
    go_wp2_with fail
    go_ret2
    exact ⟨_, rfl, (RowI.empty w _ (Nat.le_refl _)).drewN nq, (H.out.only ((Only.refl [] w).alloc (.cells #[] 3)) (by simp)).drewN nq, ((Only.refl _ w).alloc _).drewN nq⟩
/-- The head of the reference's loop: what has come, and the set that the taker would have. -/
def Loop33 (w : World) (b : Nat) (m k V0 : Int) (N : Nat) (r : List Int × Int × List Int) (n : Nat) (v : Value) (wr : World) : Prop :=
  ∃ (out : List Int) (V : Int) (f : Nat → Bool) (S : List Int), RowI wr w.heap.size v out ∧ RefIn wr b m k V f ∧ Only [b] w wr ∧ RelS m k V f S ∧ S.Nodup ∧ r = (out ++ (drain m n (V % m) S).1, (drain m n (V % m) S).2) ∧ S.length = n ∧ out.length + n = N ∧ V = V0 + out.length
/-- What the reference's Take leaves where it takes. -/
def RTakeIn (w : World) (b : Nat) (m k V0 : Int) (r : List Int × Int × List Int) (e : Ending) (w' : World) : Prop :=
  ∃ v V f, e = .returned (.tuple #[v, .int .i64 0]) ∧ RowI w' w.heap.size v r.1 ∧ RefIn w' b m k V f ∧ Only [b] w w' ∧ RelS m k V f r.2.2 ∧ r.2.2.Nodup ∧ r.2.1 = V % m ∧ V = V0 + r.1.length ∧ f 0 = false
set_option maxRecDepth 100000 in
set_option maxHeartbeats 8000000 in
theorem rtake_in (b : Nat) (m k V ns : Int) (f : Nat → Bool) (S : List Int) (w : World) (h : RefIn w b m k V f) (hm : m = 8 ∨ m = 128) (hk : k ≤ m / 2) (hV : 0 ≤ V) (hV1 : V ≤ 90000) (h0 : 0 ≤ ns) (h1 : ns < m)
    (D : Nat) (hD : farI m (V % m) ns = D) (hDk : (D : Int) < k) (hf : f D = false) (hr : RelS m k V f S) (hn : S.Nodup) (hns : ns ∉ S) :
    Calls Try.prog 33 #[.pointer (some ⟨b, 0, none⟩), .int .i64 ns] w (RTakeIn w b m k V (drain m (S.length + 1) (V % m) (ns :: S))) := by
  have hq := h.only ((Only.refl [] w).alloc (.cells #[] 3)) (by simp)
  have hV2 : (V + D) % m = ns := by
    have hV3 : 0 ≤ V % m ∧ V % m < m := ⟨Int.emod_nonneg _ (by omega), Int.emod_lt_of_pos _ (by omega)⟩
    rw [farI, if_pos (by simp [ok2B, inB, modB]; omega)] at hD
    rcases hm with rfl | rfl <;> omega
  have hr1 := hr.put hm hk D hDk hf
  rw [hV2] at hr1
  have hn1 : (ns :: S).Nodup := List.nodup_cons.2 ⟨hns, hn⟩
  have hSl : S.length ≤ 128 := by rw [hr.len]; exact cnt_le f 128
  have hblt := h.lt
  have c0 := hq.c0
  have c1 := hq.c1
  have c2 := hq.c2
  have hcc := hq.cc D (by omega)
  rw [hf] at hcc
  have hff := hq.f (3 + D)
  have wm : ¬ (m = 0) := by omega
  have wt : V.tmod m = V % m := Int.tmod_eq_emod_of_nonneg hV
  have wt2 : IntKind.i64.wrap (V % m) = V % m := IntWalk.i64_in _ (by have := Int.emod_lt_of_pos V (by omega : 0 < m); have := Int.emod_nonneg V (by omega : m ≠ 0); omega)
  have hDn : (D : Int) < 128 := by omega
  have K24 := Lib.hid (far24q hD)
  have HQ := Lib.hid hq
  have HM := Lib.hid hm
  have HR := Lib.hid hr1
  have HN := Lib.hid hn1
  clear h hq hD hm hr hr1 hn hn1 hns hf hV2
  go_enter Try.func33, Try.ntmps33
  go_wp2_with fail
  go_quiet ((go_at_call 24; exact K24.out _ _))
  clear wm wt wt2
  go_wp2_with fail
  have hset := (HQ.out.drewN nq).set D (by omega) true
  have ho1 : Only [b] w (((w.alloc (.cells #[] 3)).drewN nq).setCell ⟨b, 3 + D, none⟩ (.bool true)) := (((Only.refl [b] w).alloc _).drewN nq).setCell (by simp) _
  have hrw : RowI (((w.alloc (.cells #[] 3)).drewN nq).setCell ⟨b, 3 + D, none⟩ (.bool true)) w.heap.size (.slice (some ⟨w.heap.size, 0, none⟩) 0 0) [] :=
    ((RowI.empty w w.heap.size (Nat.le_refl _)).drewN nq).only ((Only.refl [b] _).setCell (by simp) _) (by simpa using hblt)
  generalize (((w.alloc (.cells #[] 3)).drewN nq).setCell ⟨b, 3 + D, none⟩ (.bool true)) = wA at *
  clear c0 c1 c2 hcc hff HQ
  go_loopg [6] (S.length + 1) (fun n v wr => Loop33 w b m k V (S.length + 1) (drain m (S.length + 1) (V % m) (ns :: S)) n v wr)
  case atStart => exact ⟨[], V, _, _, hrw, hset, ho1, HR.out, HN.out, by simp, by simp, by simp, by simp⟩
  case round =>
    clear hrw hset ho1
    obtain ⟨out, V', f', S', hrow, hin, hon, hrel', hnd, hdr, hlen', hout, hVV⟩ := hrel
    have hm8 : 8 ≤ m ∧ m ≤ 128 := by have := HM.out; omega
    have c0 := hin.c0
    have c2 := hin.c2
    have cc0 := hin.cc 0 (by omega)
    have hmem := hrel'.mem 0 (by omega)
    simp only [Int.natCast_zero, Int.add_zero, Nat.add_zero] at hmem cc0
    have HRL := Lib.hid hrel'
    have HD := Lib.hid (And.intro hdr (And.intro hlen' (And.intro hout (And.intro hVV hnd))))
    have hV0' : 0 ≤ V' := by omega
    have hV1' : V' ≤ 100000 := by omega
    clear hrel' hdr hlen' hout hVV hnd
    cases hf0 : f' 0
    · rw [hf0] at cc0 hmem
      have HF := Lib.hid (And.intro hmem hf0)
      clear hmem hf0
      go_wp2
      go_ret2
      obtain ⟨hdr, hl, ho, hVV, hnd⟩ := HD.out
      have hnm : V' % m ∉ S' := by simpa using HF.out.1.symm
      have hd1 : drain m gk (V' % m) S' = ([], V' % m, S') := by
        cases gk with
        | zero => rfl
        | succ n => simp [drain, hnm]
      rw [hd1, List.append_nil] at hdr
      refine ⟨u6, V', f', rfl, ?_, hin, hon, ?_, ?_, ?_, ?_, HF.out.2⟩
      · rw [hdr]; exact hrow
      · rw [hdr]; exact HRL.out
      · rw [hdr]; exact hnd
      · rw [hdr]
      · rw [hdr]; exact hVV
    · rw [hf0] at cc0 hmem
      have HF := Lib.hid (And.intro hmem hf0)
      clear hmem hf0
      have wm : ¬ (m = 0) := by omega
      have wt : V'.tmod m = V' % m := Int.tmod_eq_emod_of_nonneg hV0'
      have wt2 : IntKind.i64.wrap (V' % m) = V' % m := IntWalk.i64_in _ (by have := Int.emod_lt_of_pos V' (by omega : 0 < m); have := Int.emod_nonneg V' (by omega : m ≠ 0); omega)
      have hbase := hon.size
      go_wp2_with fail
      go_region_held3 (fun w' => w'.cell? ⟨b, 0, none⟩ = some (.int .i64 m) ∧ w'.cell? ⟨b, 2, none⟩ = some (.int .i64 V'))
        (first | exact ⟨c0, c2⟩ | exact ⟨hq.c0, hq.c2⟩ | go_keep)
        ((refine step_append_row (w := (wr.alloc (.cells #[.int .i64 (V' % m)] 3)).drew) (by rfl) _ _ (by rfl) w.heap.size u6 out (V' % m) wr.heap.size (by rfl) (hrow.only ((Only.refl [] wr).alloc _).drew (by simp)) (by rfl) (heap_new wr _) (by have := HD.out; omega) (by simp; omega) ?_; intro v' w1 hr1 hg1; have hq := (hin.only ((Only.refl [] wr).alloc (.cells #[.int .i64 (V' % m)] 3)).drew (by simp)).grown hg1 w.heap.size hrow.own hblt))
      clear wm wt wt2 cc0 c0 c2
      have hon1 : Only [b] w w1 := (hon.alloc (.cells #[.int .i64 (V' % m)] 3)).drew.grown hg1 (fun k hk => Or.inr (hrow.own k hk))
      have d2 := hq.c2
      have e2 := hq.f 2
      go_wp2_with fail
      have hin2 : RefIn (w1.setCell ⟨b, 2, none⟩ (.int .i64 (V' + 1))) b m k (V' + 1) f' := hq.setVr
      have hon2 : Only [b] w (w1.setCell ⟨b, 2, none⟩ (.int .i64 (V' + 1))) := hon1.setCell (by simp) _
      have hrow2 : RowI (w1.setCell ⟨b, 2, none⟩ (.int .i64 (V' + 1))) w.heap.size v' (out ++ [V' % m]) := hr1.only ((Only.refl [b] w1).setCell (by simp) _) (by simpa using hblt)
      generalize w1.setCell ⟨b, 2, none⟩ (.int .i64 (V' + 1)) = w2 at *
      clear hq hon1 hr1 hg1 d2 e2 hin hon hrow
      obtain ⟨wo, rfl⟩ : ∃ wo : World, wo = w2 := ⟨_, rfl⟩
      go_loopw [8] (fun i wx => ∃ t : Nat, t ≤ 127 ∧ i = .int .i64 t ∧ RefIn wx b m k (V' + 1) (part f' t) ∧ Only [b] w wx ∧ RowI wx w.heap.size v' (out ++ [V' % m])) (fun i _ => 127 - (intOf i).toNat)
      case atStart => exact ⟨0, by omega, rfl, hin2.congr (fun i hi => by simp [part]), hon2, hrow2⟩
      case round =>
        obtain ⟨t, ht, rfl, hx, hox, hrx⟩ := hrel
        clear hin2 hon2 hrow2
        by_cases hlt : (t : Int) < 127
        · have p1 := hx.cc (t + 1) (by omega)
          have p0 := hx.cc t (by omega)
          have q0 := hx.f (3 + t)
          have hst := (hx.set t (by omega) (part f' t (t + 1))).congr (g := part f' (t + 1)) (fun j hj => by
            by_cases e : j = t
            · subst e; simp [upd, part]; intro h; omega
            · by_cases h1 : j < t
              · simp [upd, part, e, h1, show j < t + 1 by omega]
              · simp [upd, part, e, h1, show ¬ j < t + 1 by omega])
          have HST := Lib.hid hst
          clear hst
          generalize part f' t (t + 1) = y at *
          generalize part f' t t = y0 at *
          go_wp2_with fail
          go_region
          go_wp2
          go_roundw
          case rel => exact ⟨t + 1, by omega, by go_num, HST.out.drew, (hox.setCell (by simp) _).drew, (hrx.only ((Only.refl [b] _).setCell (by simp) _) (by simpa using hblt)).drewN 1⟩
          case measure => simp [intOf]; omega
        · obtain rfl : t = 127 := by omega
          have hsh : RefIn wr b m k (V' + 1) (shf f') := hx.congr (fun i hi => by simp [part, shf])
          have hfin : gk - 1 < gk ∧ Loop33 w b m k V (S.length + 1) (drain m (S.length + 1) (V % m) (ns :: S)) (gk - 1) v' wr := by
            obtain ⟨hdr, hl, ho, hVV, hnd⟩ := HD.out
            have hmm : V' % m ∈ S' := by simpa using HF.out.1.symm
            have hpos : 0 < S'.length := List.length_pos_of_mem hmm
            obtain ⟨n', rfl⟩ : ∃ n', gk = n' + 1 := ⟨gk - 1, by omega⟩
            have e1 : (V' % m + 1) % m = (V' + 1) % m := by rcases HM.out with rfl | rfl <;> omega
            refine ⟨by omega, out ++ [V' % m], V' + 1, shf f', S'.erase (V' % m), hrx, hsh, hox, HRL.out.shift HM.out hk hnd HF.out.2, hnd.erase _, ?_, ?_, ?_, ?_⟩
            · rw [hdr]
              simp [drain, hmm, e1]
            · rw [List.length_erase_of_mem hmm]; omega
            · simp; omega
            · simp; omega
          have HFIN := Lib.hid hfin
          clear hfin hsh hx hox hrx hlt
          go_wp2
          go_roundg (gk - 1)
          case measure => exact HFIN.out.1
          case rel => exact HFIN.out.2
end Go.Proofs.Ytfloemimimkgaaa
