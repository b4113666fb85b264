/- Where the law begins: what its arguments and the listed variables give the evaluator. No conditions but those that each theorem names. -/
import Derived.Test.YtgljampcnbgbhaaGreatDoorGh
import Derived.Test.YtgljampcnbgbhaaGreatDoorMem
import Derived.Test.YtgljampcnbgbhaaGreatDoorRows
import Derived.MakeChecks
import Derived.OpenShut
set_option linter.unusedVariables false
set_option linter.unusedSimpArgs false
namespace Go.Proofs.YtgljampcnbgbhaaGreatDoor
open Go Go.RowKit Go.ChangeShapes Go.WideShapes Go.ChangeAt
set_option maxRecDepth 100000
/-- Which bytes are blanks. -/
def spaceZ : List Int := List.replicate 9 0 ++ List.replicate 5 1 ++ List.replicate 18 0 ++ [1] ++ List.replicate 223 0
theorem space_laid : Rows.laid_strings_asciiSpace (H := Unit) = .agg (spaceZ.map fun n => .lit (.int .u8 n)) := by kernel_rfl
theorem space_cells {W : World} (h : laidMetH Tryz.prog Rows.topDeafRow.laid W) : ∃ cs, W.var? Tryz.prog "strings.asciiSpace" = some cs ∧ cs.toList = spaceZ.map fun n => .int .u8 n := by
  rw [MakeChecks.laidMetH_plain _ _ _ (by kernel_rfl)] at h
  obtain ⟨ps, ⟨_, _, _, _, _, _, _, _, _, _, ⟨_, _, _, _, _, _, _, _, _, _, ⟨_, _, _, _, _, _, _, _, _, _, ⟨_, _, _, _, _, _, _, _, _, _, ⟨_, _, _, _, _, _, _, _, _, _, ⟨g, t, cs, fuel, p, q, hg, ht, hv, hd, _, _⟩, _⟩, _⟩, _⟩, _⟩, _⟩, _, _⟩ := h
  obtain rfl := Option.some.inj ((show Tryz.prog.globalNamed "strings.asciiSpace" = some 0 by kernel_rfl).symm.trans hg)
  obtain rfl := Option.some.inj ((show (Tryz.prog.globals[0]?).map (·.type) = some 487 by kernel_rfl).symm.trans ht)
  refine ⟨cs, hv, ?_⟩
  have hu : Tryz.prog.underlying 487 = some (.array 256 5) := by kernel_rfl
  obtain ⟨xs, m, _, ex, hcl, hl, hel⟩ := DataW.trod_array hu hd
  have c5 : Tryz.prog.cellsOf 5 = 1 := by kernel_rfl
  have c487 : Tryz.prog.cellsOf 487 = 256 := by kernel_rfl
  have hlen : spaceZ.length = 256 := by kernel_rfl
  rw [space_laid] at ex
  have e3 : (xs.map (·.1)) = spaceZ.map fun n => .lit (.int .u8 n) := (DataW.agg.inj (Prod.mk.inj ex).1).symm
  rw [c487] at hcl
  refine List.ext_getElem? fun r => ?_
  by_cases hr : r < 256
  · have hE := hel r hr
    rw [c5, Nat.mul_one, List.getElem?_eq_getElem (by omega)] at hE
    obtain ⟨z, e1, e2, _⟩ := DataW.trod_int Tryz.underlying5 hE
    have e4 : (xs.map (·.1))[r]? = (spaceZ.map fun n => (DataW.lit (.int .u8 n) : DataW Unit))[r]? := by rw [e3]
    rw [List.getElem?_map, List.getElem?_map, List.getElem?_eq_getElem (by omega : r < xs.length), List.getElem?_eq_getElem (by omega : r < spaceZ.length), e2] at e4
    simp only [Option.map_some, Option.some.injEq, DataW.lit.injEq, Lit.int.injEq, true_and] at e4
    have : cs.toList[r]? = some (.int .u8 z) := by
      have h0 : ((cs.toList.drop r).take 1)[0]? = some (.int .u8 z) := by rw [e1]; rfl
      simpa using h0
    rw [this, List.getElem?_map, List.getElem?_eq_getElem (by omega : r < spaceZ.length), e4]
    rfl
  · rw [List.getElem?_eq_none (by omega), List.getElem?_eq_none (by simp; omega)]
theorem begun0 : (((begin Tryz.prog (fun _ _ => 0) default).world.heap[0]?).bind Obj.row?).map (·.2) = some 487 := by kernel_rfl
/-- The first variable's block. -/
theorem space_block {W : World} (hL : laidMetH Tryz.prog Rows.topDeafRow.laid W) (hsh : W.ShapedOpen Tryz.prog) : ∃ cs, W.heap[0]? = some (.cells cs 487 (0, 0)) ∧ cs.toList = spaceZ.map fun n => .int .u8 n := by
  obtain ⟨cs, h1, h2⟩ := space_cells hL
  have hb := begun0
  cases hr : ((begin Tryz.prog (fun _ _ => 0) default).world.heap[0]?).bind Obj.row? with
  | none => rw [hr] at hb; cases hb
  | some x =>
    obtain ⟨zero, u⟩ := x
    rw [hr] at hb
    simp only [Option.map_some, Option.some.injEq] at hb
    subst hb
    obtain ⟨ds, k1, k2, _⟩ := hsh.1 0 zero 487 (by decide +kernel) hr
    refine ⟨ds, k1, ?_⟩
    have hg : Tryz.prog.globalNamed "strings.asciiSpace" = some 0 := by kernel_rfl
    simp only [World.var?, hg, Option.bind_some, k1, Option.some.injEq] at h1
    rw [h1]; exact h2
namespace Ev
theorem space_tree : ∃ t, A0 = [(0, .cells true 487 (some 256) t), (16, .dr)] ∧ Tr.mk (spaceZ.map fun n => .int .u8 n) = t := ⟨_, rfl, by kernel_rfl⟩
/-- Where blocks lie when the law begins. -/
def ren0 (db : Nat) : Ren := fun b => if b < 16 then some ⟨b, 0, 1, 0⟩ else if b = 16 then some ⟨db, 0, 1, 0⟩ else none
theorem at0 {D : Value} {dr : Obj} {db : Nat} {W : World} {cs : Array Value} (h0 : W.heap[0]? = some (.cells cs 487 (0, 0))) (hcs : cs.toList = spaceZ.map fun n => .int .u8 n) (hdr : W.heap[db]? = some dr) :
    At (cx D dr db 2 2) W.heap.size W 0 (ren0 db) 100 A0 (ren0 db) W := by
  obtain ⟨t, hA, ht⟩ := space_tree
  have mem : ∀ b k, (buildP A0 .e).get b = some k → (b = 0 ∧ k = .cells true 487 (some 256) t) ∨ (b = 16 ∧ k = .dr) := fun b k hb => by
    rcases get_buildP A0 .e b k hb with hm | hm
    · rw [hA] at hm
      simp only [List.mem_cons, Prod.mk.injEq, List.mem_nil_iff, or_false] at hm
      exact hm
    · rw [Tr.get_e] at hm; cases hm
  have hro : ∀ b k, (buildP A0 .e).get b = some k → roB k = true := fun b k hb => by
    rcases mem b k hb with ⟨_, rfl⟩ | ⟨_, rfl⟩ <;> rfl
  have hlen : spaceZ.length = 256 := by kernel_rfl
  have hsz : cs.size = 256 := by
    have := congrArg List.length hcs
    simpa [hlen] using this
  refine ⟨⟨fun b k hb => ?_, fun b b' k k' pl pl' hb hb' hor => ?_⟩, fun g hg => ⟨⟨g, 0, 1, 0⟩, if_pos hg, rfl, rfl⟩, fun i ⟨b, k, pl, h1, h2, _⟩ => ?_, Nat.le_refl _, fun _ _ => rfl, rfl, rfl, rfl, fun b hb => ?_, Nat.zero_le _, fun _ _ => rfl⟩
  · rcases mem b k hb with ⟨rfl, rfl⟩ | ⟨rfl, rfl⟩
    · refine ⟨⟨0, 0, 1, 0⟩, cs, (0, 0), rfl, h0, Nat.zero_le _, fun o v hv => ?_, open_zero _, hsz, rfl⟩
      rw [← ht, Tr.get_mk, ← hcs, Array.getElem?_toList] at hv
      refine ⟨v, by simpa using hv, ?_⟩
      have : v ∈ spaceZ.map fun n => Value.int .u8 n := by
        rw [← hcs]
        exact List.mem_of_getElem? (by rw [Array.getElem?_toList]; exact hv)
      obtain ⟨n, _, rfl⟩ := List.mem_map.1 this
      exact .int _ _
    · exact ⟨⟨db, 0, 1, 0⟩, rfl, rfl, hdr⟩
  · rw [hro b k hb, hro b' k' hb'] at hor
    rcases hor with h | h <;> cases h
  · rw [hro b k h1] at h2; cases h2
  · unfold ren0; rw [if_neg (by omega), if_neg (by omega)]
end Ev
end Go.Proofs.YtgljampcnbgbhaaGreatDoor
