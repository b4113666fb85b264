/-
  DERIVED. GIVEN WITH THE SEED: THE CARDS: each row of YtgljampcnbgbhaaGreatDoorRows.lean that lists a variable, with what it lists TIED to the program's text (the seventh form; the later family's looks); each row that meets fmt, with fmt's text TOLD by the authors' own Lean function (tested against real Go, not proved from fmt's source: count such statements apart). THE CARD IS WHAT COUNTS. Prove the row's statement (the work); the ties are given (YtgljampcnbgbhaaGreatDoorTie.lean); close each card by the builder's one call (the guide's Derived/Test/ToyasCard.lean, 'card_holds'). Laid BY PROGRAM, IN A SANDBOX (cutbox-door.mjs). By AI agents, Wed Nov 11 2026. No macro, syntax, notation, axiom, sorry.
-/
import Derived.Test.YtgljampcnbgbhaaGreatDoorRows
import GoSem.ClaimSeven
namespace Go.Proofs.YtgljampcnbgbhaaGreatDoor
namespace Rows

/-- THE TIED CARD OF 'squelchtop.TopDeaf'. -/
def topDeafCard : Claim7 := { stood := { row := topDeafRow, standIns := [], harness := (true, "838ebfe03961e5cdd52f1bf6ed7b709cd71c7f65ca658a548036a6feeb204987"), looks := true }, kinds := [], alts := [], laidByText := true, laidKinds := [.data, .data, .data, .pinned, .data, .data, .listed, .sentinel, .sentinel], laidTests := true, laidLooks := .later }
def TopDeafCardSaid : Prop := Claim7.holds Tryz.pinned (.plain (OpenSpec.ofChange topDeafSpec)) topDeafCard

/-- THE SECOND FORM's CARD OF 'squelchtop.TopDeaf'. -/
def topDeafUptoCard : Claim7 := { stood := { row := topDeafUptoRow, standIns := [], harness := (true, "838ebfe03961e5cdd52f1bf6ed7b709cd71c7f65ca658a548036a6feeb204987"), looks := true }, kinds := [], alts := [], laidByText := true, laidKinds := [.data, .data, .data, .pinned, .data, .data, .listed, .sentinel, .sentinel], laidTests := true, laidLooks := .later }
def TopDeafUptoCardSaid : Prop := Claim7.holds Tryz.pinned (.plain (OpenSpec.upto topDeafSpec)) topDeafUptoCard
end Rows
end Go.Proofs.YtgljampcnbgbhaaGreatDoor
