/- TopDeaf returns true for every input, and leaves what it was handed as it was; no condition beside the form's own: the row and its tied card. -/
import Derived.Test.YtgljampcnbgbhaaGreatDoorGk
import Derived.Test.YtgljampcnbgbhaaGreatDoorTcJ
import Derived.Test.YtgljampcnbgbhaaGreatDoorJe
import Derived.Test.YtgljampcnbgbhaaGreatDoorCards
import Derived.ProofKit
import Derived.OpenShut
import Derived.LaidMore
import Derived.Lay
import Derived.ChangeOld
import Derived.SevenTiedAt
import Derived.Stop.Joined
set_option linter.unusedVariables false
set_option linter.unusedSimpArgs false
namespace Go.Proofs.YtgljampcnbgbhaaGreatDoor
open Go Go.ChangeShapes Go.WideShapes Go.ChangeAt Go.RowKit
set_option maxRecDepth 100000
theorem proved : Rows.TopDeafCardSaid :=
  Claim7.holds_tied_plain_at .later [] [.data, .data, .data, .pinned, .data, .data, .listed, .sentinel, .sentinel] true (true, "838ebfe03961e5cdd52f1bf6ed7b709cd71c7f65ca658a548036a6feeb204987") true
    over (fun _ h => by cases h) cf0 (fun _ h => by cases h) topDeaf_row_tie rfl ⟨rfl, rfl⟩ cf1 rfl
    (fun f fn hf hfn => by
      obtain rfl : f = 3 := (Option.some.inj (named3.symm.trans hf)).symm
      obtain rfl : fn = Tryz.f3 := (Option.some.inj (Tryz.func3.symm.trans hfn)).symm
      exact ⟨cf2, fun j t ht => by
        rw [Tryz.params3] at ht
        have h3 : t = 5 ∨ t = 22 := by
          rcases j with _ | _ | j
          · exact .inl (by simpa using ht.symm)
          · exact .inr (by simpa using ht.symm)
          · simp at ht
        rcases h3 with rfl | rfl
        · exact cf3
        · exact cf4⟩)
    goes3
#print axioms proved
end Go.Proofs.YtgljampcnbgbhaaGreatDoor
