/- A slice of strings that came in, opened. No conditions but those that each theorem names. -/
import Derived.Test.YtommamngklobkaaLw
import Derived.Deep.Strs
namespace Go.Proofs.Ytommamngklobkaa
open Go.RowKit Go.ChangeShapes Go.WideShapes
theorem open_strs_row {H : Type} {enc : TypeId × Value → H} {P : Program} {W : World} {t e : TypeId} {a : Option Addr} {len cap : Nat} {d : DataW H} {p : List MemPlace}
    (ht : P.underlying t = some (.slice e)) (he : P.underlying e = some .string) (hc : P.cellsOf e = 1) (h : DataW.Trod enc P W 0 (fun _ => true) true t (.slice a len cap) d p) : ∃ fr, IsStrs W a len cap fr := by
  obtain ⟨fuel, hf⟩ := h
  rcases Deep.open_strs ht he hc hf with ⟨hcs, _⟩ | ⟨x, l, c, m, Sx, hcs, _, hl, hm, hmm, _, hcell⟩
  · simp [Value.cells] at hcs
    obtain ⟨rfl, rfl, rfl⟩ := hcs
    exact ⟨[], rfl, Nat.le_refl _, by unfold maxLen; omega, by simp, fun h => by omega⟩
  · simp [Value.cells] at hcs
    obtain ⟨rfl, rfl, rfl⟩ := hcs
    have hmc : m = cap := by rw [hmm]; rfl
    refine ⟨(List.range len).map Sx, by simp, hl, hm, fun s hs => ?_, fun h0 => ?_⟩
    · obtain ⟨i, hi, rfl⟩ := List.mem_map.1 hs
      exact (hcell i (by have := List.mem_range.1 hi; omega)).2
    · obtain ⟨b, off, spot⟩ := x
      have hspot : spot = none := by simpa [Addr.add] using World.cell?_spot (hcell 0 (by omega)).1
      subst hspot
      refine ⟨b, off, rfl, fun i hi => ?_⟩
      have hil : i < len := by simpa using hi
      rw [← Go.WideShapes.add_plain]
      simpa using (hcell i (by omega)).1
end Go.Proofs.Ytommamngklobkaa
