/-
  No cell of these rows narrows 'for every input' (looked for: loops, veiled, ifaces, maps, wideKeys, modest, calm, conditions, laid).
  DERIVED. THE GIVEN ROWS OF THIS SEAT. 9 by the template 'for every input the law returns true; each argument reads behind the call as it read before'; 0 by the template 'total and deterministic' (their statements: YtfloemimimkgaaaTotals.lean).
  GIVEN WITH THE SEED: the statements are not yours to turn. If you find one false, say at which input.
  Laid BY PROGRAM, IN A SANDBOX (cutbox-rows.mjs): the forced cells as the released guide's own fill.sh prints them over the translation a30878e75739cdfe… (all of the seat's roots in one cut). By AI agents, Wed Nov 11 2026. No macro, syntax, notation, axiom, sorry.
-/
import Derived.Test.YtfloemimimkgaaaChecked
import GoSem.Claim
import GoSem.ClaimJoined
import GoSem.ClaimMapViews
import Derived.JoinedTies
import Derived.KernelRfl
namespace Go.Proofs.Ytfloemimimkgaaa
/- THE CELL 'sum', in the pinned program and in every row, IS THE sha256 OF THE DUMP (.gsa) THAT YtfloemimimkgaaaProg.lean LOADS. Nothing in Lean hashes anything: it is a label: what it is worth is what the hold of that sum in a sandbox is worth. -/
noncomputable def Try.pinned : Pinned := { name := "ytfloemimimkgaaa", sum := "a30878e75739cdfe38666272fd6619e3a73bc13f9a9dbc7282797c7c0ac5e473", checked := Try.checked }
namespace Rows
def none {H : Type} : Left H := { results := [], args := [] }

/-- 'squelchlaw12.SmoothTakes': WHATEVER THE INPUT: true; the input reads as it did. -/
def smoothTakesSpec : ChangeSpec := { name := "smoothTakes", fn := fun _ => fun
  | [d1, d2] => { results := [.lit (.bool true)], args := [d1, d2] }
  | _ => none }
def smoothTakesRow : OpenClaim := { program := "ytfloemimimkgaaa", sum := "a30878e75739cdfe38666272fd6619e3a73bc13f9a9dbc7282797c7c0ac5e473", func := "squelch/squelchlaw12.SmoothTakes", spec := "smoothTakes", apart := false }
def SmoothTakesSaid : Prop := smoothTakesRow.holds Try.pinned (OpenSpec.ofChange smoothTakesSpec)

/-- ITS FALSE NEIGHBOUR: 'it returns false'. Refute it at one input. -/
def smoothTakesWrong : ChangeSpec := { name := "smoothTakes", fn := fun _ => fun
  | [d1, d2] => { results := [.lit (.bool false)], args := [d1, d2] }
  | _ => none }
def SmoothTakesWrongFalsely : Prop := smoothTakesRow.holds Try.pinned (OpenSpec.ofChange smoothTakesWrong)

/-- 'squelchlaw12.SmoothComes': WHATEVER THE INPUT: true; the input reads as it did. -/
def smoothComesSpec : ChangeSpec := { name := "smoothComes", fn := fun _ => fun
  | [d1, d2, d3] => { results := [.lit (.bool true)], args := [d1, d2, d3] }
  | _ => none }
def smoothComesRow : OpenClaim := { program := "ytfloemimimkgaaa", sum := "a30878e75739cdfe38666272fd6619e3a73bc13f9a9dbc7282797c7c0ac5e473", func := "squelch/squelchlaw12.SmoothComes", spec := "smoothComes", apart := false }
def SmoothComesSaid : Prop := smoothComesRow.holds Try.pinned (OpenSpec.ofChange smoothComesSpec)

/-- ITS FALSE NEIGHBOUR: 'it returns false'. Refute it at one input. -/
def smoothComesWrong : ChangeSpec := { name := "smoothComes", fn := fun _ => fun
  | [d1, d2, d3] => { results := [.lit (.bool false)], args := [d1, d2, d3] }
  | _ => none }
def SmoothComesWrongFalsely : Prop := smoothComesRow.holds Try.pinned (OpenSpec.ofChange smoothComesWrong)

/-- 'squelchlaw12.SmoothOrder': WHATEVER THE INPUT: true; the input reads as it did. -/
def smoothOrderSpec : ChangeSpec := { name := "smoothOrder", fn := fun _ => fun
  | [d1, d2, d3] => { results := [.lit (.bool true)], args := [d1, d2, d3] }
  | _ => none }
def smoothOrderRow : OpenClaim := { program := "ytfloemimimkgaaa", sum := "a30878e75739cdfe38666272fd6619e3a73bc13f9a9dbc7282797c7c0ac5e473", func := "squelch/squelchlaw12.SmoothOrder", spec := "smoothOrder", apart := false }
def SmoothOrderSaid : Prop := smoothOrderRow.holds Try.pinned (OpenSpec.ofChange smoothOrderSpec)

/-- ITS FALSE NEIGHBOUR: 'it returns false'. Refute it at one input. -/
def smoothOrderWrong : ChangeSpec := { name := "smoothOrder", fn := fun _ => fun
  | [d1, d2, d3] => { results := [.lit (.bool false)], args := [d1, d2, d3] }
  | _ => none }
def SmoothOrderWrongFalsely : Prop := smoothOrderRow.holds Try.pinned (OpenSpec.ofChange smoothOrderWrong)

/-- 'squelchlaw12.SmoothSums': WHATEVER THE INPUT: true; the input reads as it did. -/
def smoothSumsSpec : ChangeSpec := { name := "smoothSums", fn := fun _ => fun
  | [d1, d2] => { results := [.lit (.bool true)], args := [d1, d2] }
  | _ => none }
def smoothSumsRow : OpenClaim := { program := "ytfloemimimkgaaa", sum := "a30878e75739cdfe38666272fd6619e3a73bc13f9a9dbc7282797c7c0ac5e473", func := "squelch/squelchlaw12.SmoothSums", spec := "smoothSums", apart := false }
def SmoothSumsSaid : Prop := smoothSumsRow.holds Try.pinned (OpenSpec.ofChange smoothSumsSpec)

/-- ITS FALSE NEIGHBOUR: 'it returns false'. Refute it at one input. -/
def smoothSumsWrong : ChangeSpec := { name := "smoothSums", fn := fun _ => fun
  | [d1, d2] => { results := [.lit (.bool false)], args := [d1, d2] }
  | _ => none }
def SmoothSumsWrongFalsely : Prop := smoothSumsRow.holds Try.pinned (OpenSpec.ofChange smoothSumsWrong)

/-- 'squelchlaw11.SeqNumbers': WHATEVER THE INPUT: true; the input reads as it did. -/
def seqNumbersSpec : ChangeSpec := { name := "seqNumbers", fn := fun _ => fun
  | [d1, d2, d3] => { results := [.lit (.bool true)], args := [d1, d2, d3] }
  | _ => none }
def seqNumbersRow : OpenClaim := { program := "ytfloemimimkgaaa", sum := "a30878e75739cdfe38666272fd6619e3a73bc13f9a9dbc7282797c7c0ac5e473", func := "squelch/squelchlaw11.SeqNumbers", spec := "seqNumbers", apart := false }
def SeqNumbersSaid : Prop := seqNumbersRow.holds Try.pinned (OpenSpec.ofChange seqNumbersSpec)

/-- ITS FALSE NEIGHBOUR: 'it returns false'. Refute it at one input. -/
def seqNumbersWrong : ChangeSpec := { name := "seqNumbers", fn := fun _ => fun
  | [d1, d2, d3] => { results := [.lit (.bool false)], args := [d1, d2, d3] }
  | _ => none }
def SeqNumbersWrongFalsely : Prop := seqNumbersRow.holds Try.pinned (OpenSpec.ofChange seqNumbersWrong)

/-- 'squelchlaw11.SeqStale': WHATEVER THE INPUT: true; the input reads as it did. -/
def seqStaleSpec : ChangeSpec := { name := "seqStale", fn := fun _ => fun
  | [d1, d2, d3] => { results := [.lit (.bool true)], args := [d1, d2, d3] }
  | _ => none }
def seqStaleRow : OpenClaim := { program := "ytfloemimimkgaaa", sum := "a30878e75739cdfe38666272fd6619e3a73bc13f9a9dbc7282797c7c0ac5e473", func := "squelch/squelchlaw11.SeqStale", spec := "seqStale", apart := false }
def SeqStaleSaid : Prop := seqStaleRow.holds Try.pinned (OpenSpec.ofChange seqStaleSpec)

/-- ITS FALSE NEIGHBOUR: 'it returns false'. Refute it at one input. -/
def seqStaleWrong : ChangeSpec := { name := "seqStale", fn := fun _ => fun
  | [d1, d2, d3] => { results := [.lit (.bool false)], args := [d1, d2, d3] }
  | _ => none }
def SeqStaleWrongFalsely : Prop := seqStaleRow.holds Try.pinned (OpenSpec.ofChange seqStaleWrong)

/-- 'squelchlaw11.SeqTakes': WHATEVER THE INPUT: true; the input reads as it did. -/
def seqTakesSpec : ChangeSpec := { name := "seqTakes", fn := fun _ => fun
  | [d1, d2, d3] => { results := [.lit (.bool true)], args := [d1, d2, d3] }
  | _ => none }
def seqTakesRow : OpenClaim := { program := "ytfloemimimkgaaa", sum := "a30878e75739cdfe38666272fd6619e3a73bc13f9a9dbc7282797c7c0ac5e473", func := "squelch/squelchlaw11.SeqTakes", spec := "seqTakes", apart := false }
def SeqTakesSaid : Prop := seqTakesRow.holds Try.pinned (OpenSpec.ofChange seqTakesSpec)

/-- ITS FALSE NEIGHBOUR: 'it returns false'. Refute it at one input. -/
def seqTakesWrong : ChangeSpec := { name := "seqTakes", fn := fun _ => fun
  | [d1, d2, d3] => { results := [.lit (.bool false)], args := [d1, d2, d3] }
  | _ => none }
def SeqTakesWrongFalsely : Prop := seqTakesRow.holds Try.pinned (OpenSpec.ofChange seqTakesWrong)

/-- 'squelchlaw11.SeqThrough': WHATEVER THE INPUT: true; the input reads as it did. -/
def seqThroughSpec : ChangeSpec := { name := "seqThrough", fn := fun _ => fun
  | [d1, d2, d3] => { results := [.lit (.bool true)], args := [d1, d2, d3] }
  | _ => none }
def seqThroughRow : OpenClaim := { program := "ytfloemimimkgaaa", sum := "a30878e75739cdfe38666272fd6619e3a73bc13f9a9dbc7282797c7c0ac5e473", func := "squelch/squelchlaw11.SeqThrough", spec := "seqThrough", apart := false }
def SeqThroughSaid : Prop := seqThroughRow.holds Try.pinned (OpenSpec.ofChange seqThroughSpec)

/-- ITS FALSE NEIGHBOUR: 'it returns false'. Refute it at one input. -/
def seqThroughWrong : ChangeSpec := { name := "seqThrough", fn := fun _ => fun
  | [d1, d2, d3] => { results := [.lit (.bool false)], args := [d1, d2, d3] }
  | _ => none }
def SeqThroughWrongFalsely : Prop := seqThroughRow.holds Try.pinned (OpenSpec.ofChange seqThroughWrong)

/-- 'squelchlaw11.SeqSends': WHATEVER THE INPUT: true; the input reads as it did. -/
def seqSendsSpec : ChangeSpec := { name := "seqSends", fn := fun _ => fun
  | [d1, d2, d3] => { results := [.lit (.bool true)], args := [d1, d2, d3] }
  | _ => none }
def seqSendsRow : OpenClaim := { program := "ytfloemimimkgaaa", sum := "a30878e75739cdfe38666272fd6619e3a73bc13f9a9dbc7282797c7c0ac5e473", func := "squelch/squelchlaw11.SeqSends", spec := "seqSends", apart := false }
def SeqSendsSaid : Prop := seqSendsRow.holds Try.pinned (OpenSpec.ofChange seqSendsSpec)

/-- ITS FALSE NEIGHBOUR: 'it returns false'. Refute it at one input. -/
def seqSendsWrong : ChangeSpec := { name := "seqSends", fn := fun _ => fun
  | [d1, d2, d3] => { results := [.lit (.bool false)], args := [d1, d2, d3] }
  | _ => none }
def SeqSendsWrongFalsely : Prop := seqSendsRow.holds Try.pinned (OpenSpec.ofChange seqSendsWrong)

/- THE SECOND FORM. 'bulk': how many values and letters a reading holds, each counted each time it is reached (what is shared counts as often as it is met; a slice's spare places count too). A statement '..UptoSaid' is the law's where the arguments, and the package variables that the reading takes, are together of bulk at most 1048576: NARROWER than '..Said'. Prove '..Said' where nothing that the law and all that it calls make is longer than what came in: it says more and counts as full. Else prove '..UptoSaid'. A law counts once. -/
mutual
def uptoBulk {H : Type} : DataW H → Nat
  | .lit (.string bytes) => bytes.length + 1
  | .lit _ => 1
  | .nil => 1
  | .ptr d => uptoBulk d + 1
  | .slice elems spare => uptoBulkAll elems + uptoBulkAll spare + 1
  | .agg parts => uptoBulkAll parts + 1
  | .iface _ d => uptoBulk d + 1
  | .map entries => uptoBulkEntries entries + 1
  | .held _ => 1
def uptoBulkAll {H : Type} : List (DataW H) → Nat
  | [] => 0
  | d :: r => uptoBulk d + uptoBulkAll r
def uptoBulkEntries {H : Type} : List (Lit × DataW H) → Nat
  | [] => 0
  | x :: r => uptoBulkEntry x + uptoBulkEntries r
def uptoBulkEntry {H : Type} : Lit × DataW H → Nat
  | (.string bytes, d) => bytes.length + uptoBulk d + 1
  | (_, d) => uptoBulk d + 1
 end
def uptoSmall : (H : Type) → List (DataW H) → Bool := fun _ ds => decide (uptoBulkAll ds ≤ 1048576)
def OpenSpec.upto (s : _root_.Go.ChangeSpec) : _root_.Go.OpenSpec := { _root_.Go.OpenSpec.ofChange s with cond := some uptoSmall }

/-- 'squelchlaw12.SmoothTakes', WHERE WHAT IT READS IS OF BULK AT MOST 1048576: true; the input reads as it did. -/
def smoothTakesUptoRow : OpenClaim := { program := "ytfloemimimkgaaa", sum := "a30878e75739cdfe38666272fd6619e3a73bc13f9a9dbc7282797c7c0ac5e473", func := "squelch/squelchlaw12.SmoothTakes", spec := "smoothTakes", apart := false, narrowed := true }
def SmoothTakesUptoSaid : Prop := smoothTakesUptoRow.holds Try.pinned (OpenSpec.upto smoothTakesSpec)

/-- 'squelchlaw12.SmoothComes', WHERE WHAT IT READS IS OF BULK AT MOST 1048576: true; the input reads as it did. -/
def smoothComesUptoRow : OpenClaim := { program := "ytfloemimimkgaaa", sum := "a30878e75739cdfe38666272fd6619e3a73bc13f9a9dbc7282797c7c0ac5e473", func := "squelch/squelchlaw12.SmoothComes", spec := "smoothComes", apart := false, narrowed := true }
def SmoothComesUptoSaid : Prop := smoothComesUptoRow.holds Try.pinned (OpenSpec.upto smoothComesSpec)

/-- 'squelchlaw12.SmoothOrder', WHERE WHAT IT READS IS OF BULK AT MOST 1048576: true; the input reads as it did. -/
def smoothOrderUptoRow : OpenClaim := { program := "ytfloemimimkgaaa", sum := "a30878e75739cdfe38666272fd6619e3a73bc13f9a9dbc7282797c7c0ac5e473", func := "squelch/squelchlaw12.SmoothOrder", spec := "smoothOrder", apart := false, narrowed := true }
def SmoothOrderUptoSaid : Prop := smoothOrderUptoRow.holds Try.pinned (OpenSpec.upto smoothOrderSpec)

/-- 'squelchlaw12.SmoothSums', WHERE WHAT IT READS IS OF BULK AT MOST 1048576: true; the input reads as it did. -/
def smoothSumsUptoRow : OpenClaim := { program := "ytfloemimimkgaaa", sum := "a30878e75739cdfe38666272fd6619e3a73bc13f9a9dbc7282797c7c0ac5e473", func := "squelch/squelchlaw12.SmoothSums", spec := "smoothSums", apart := false, narrowed := true }
def SmoothSumsUptoSaid : Prop := smoothSumsUptoRow.holds Try.pinned (OpenSpec.upto smoothSumsSpec)

/-- 'squelchlaw11.SeqNumbers', WHERE WHAT IT READS IS OF BULK AT MOST 1048576: true; the input reads as it did. -/
def seqNumbersUptoRow : OpenClaim := { program := "ytfloemimimkgaaa", sum := "a30878e75739cdfe38666272fd6619e3a73bc13f9a9dbc7282797c7c0ac5e473", func := "squelch/squelchlaw11.SeqNumbers", spec := "seqNumbers", apart := false, narrowed := true }
def SeqNumbersUptoSaid : Prop := seqNumbersUptoRow.holds Try.pinned (OpenSpec.upto seqNumbersSpec)

/-- 'squelchlaw11.SeqStale', WHERE WHAT IT READS IS OF BULK AT MOST 1048576: true; the input reads as it did. -/
def seqStaleUptoRow : OpenClaim := { program := "ytfloemimimkgaaa", sum := "a30878e75739cdfe38666272fd6619e3a73bc13f9a9dbc7282797c7c0ac5e473", func := "squelch/squelchlaw11.SeqStale", spec := "seqStale", apart := false, narrowed := true }
def SeqStaleUptoSaid : Prop := seqStaleUptoRow.holds Try.pinned (OpenSpec.upto seqStaleSpec)

/-- 'squelchlaw11.SeqTakes', WHERE WHAT IT READS IS OF BULK AT MOST 1048576: true; the input reads as it did. -/
def seqTakesUptoRow : OpenClaim := { program := "ytfloemimimkgaaa", sum := "a30878e75739cdfe38666272fd6619e3a73bc13f9a9dbc7282797c7c0ac5e473", func := "squelch/squelchlaw11.SeqTakes", spec := "seqTakes", apart := false, narrowed := true }
def SeqTakesUptoSaid : Prop := seqTakesUptoRow.holds Try.pinned (OpenSpec.upto seqTakesSpec)

/-- 'squelchlaw11.SeqThrough', WHERE WHAT IT READS IS OF BULK AT MOST 1048576: true; the input reads as it did. -/
def seqThroughUptoRow : OpenClaim := { program := "ytfloemimimkgaaa", sum := "a30878e75739cdfe38666272fd6619e3a73bc13f9a9dbc7282797c7c0ac5e473", func := "squelch/squelchlaw11.SeqThrough", spec := "seqThrough", apart := false, narrowed := true }
def SeqThroughUptoSaid : Prop := seqThroughUptoRow.holds Try.pinned (OpenSpec.upto seqThroughSpec)

/-- 'squelchlaw11.SeqSends', WHERE WHAT IT READS IS OF BULK AT MOST 1048576: true; the input reads as it did. -/
def seqSendsUptoRow : OpenClaim := { program := "ytfloemimimkgaaa", sum := "a30878e75739cdfe38666272fd6619e3a73bc13f9a9dbc7282797c7c0ac5e473", func := "squelch/squelchlaw11.SeqSends", spec := "seqSends", apart := false, narrowed := true }
def SeqSendsUptoSaid : Prop := seqSendsUptoRow.holds Try.pinned (OpenSpec.upto seqSendsSpec)

end Rows
end Go.Proofs.Ytfloemimimkgaaa
