/-
  No cell of these rows narrows 'for every input' (looked for: loops, veiled, ifaces, maps, wideKeys, modest, calm, conditions, laid).
  DERIVED. THE GIVEN ROWS OF THIS SEAT. 3 by the template 'for every input the law returns true; each argument reads behind the call as it read before'; 0 by the template 'total and deterministic' (their statements: YtommamngklobkaaTotals.lean).
  GIVEN WITH THE SEED: the statements are not yours to turn. If you find one false, say at which input.
  Laid BY PROGRAM, IN A SANDBOX (cutbox-rows.mjs): the forced cells as the released guide's own fill.sh prints them over the translation 917abfbcaa2a49c4… (all of the seat's roots in one cut). By AI agents, Wed Nov 11 2026. No macro, syntax, notation, axiom, sorry.
-/
import Derived.Test.YtommamngklobkaaChecked
import GoSem.Claim
import GoSem.ClaimJoined
import GoSem.ClaimMapViews
import Derived.JoinedTies
import Derived.KernelRfl
namespace Go.Proofs.Ytommamngklobkaa
/- THE CELL 'sum', in the pinned program and in every row, IS THE sha256 OF THE DUMP (.gsa) THAT YtommamngklobkaaProg.lean LOADS. Nothing in Lean hashes anything: it is a label: what it is worth is what the hold of that sum in a sandbox is worth. -/
noncomputable def Try.pinned : Pinned := { name := "ytommamngklobkaa", sum := "917abfbcaa2a49c4fc9804424d416026b766fe8f3e41d958729e613759f5b984", checked := Try.checked }
namespace Rows
def none {H : Type} : Left H := { results := [], args := [] }

/-- 'squelchlaw14.PlaceTurns': WHATEVER THE INPUT: true; the input reads as it did. -/
def placeTurnsSpec : ChangeSpec := { name := "placeTurns", fn := fun _ => fun
  | [d1, d2] => { results := [.lit (.bool true)], args := [d1, d2] }
  | _ => none }
def placeTurnsRow : OpenClaim := { program := "ytommamngklobkaa", sum := "917abfbcaa2a49c4fc9804424d416026b766fe8f3e41d958729e613759f5b984", func := "squelch/squelchlaw14.PlaceTurns", spec := "placeTurns", plainKeys := false, apart := false }
def PlaceTurnsSaid : Prop := placeTurnsRow.holds Try.pinned (OpenSpec.ofChange placeTurnsSpec)

/-- ITS FALSE NEIGHBOUR: 'it returns false'. Refute it at one input. -/
def placeTurnsWrong : ChangeSpec := { name := "placeTurns", fn := fun _ => fun
  | [d1, d2] => { results := [.lit (.bool false)], args := [d1, d2] }
  | _ => none }
def PlaceTurnsWrongFalsely : Prop := placeTurnsRow.holds Try.pinned (OpenSpec.ofChange placeTurnsWrong)

/-- 'squelchlaw15.AirCrowd': WHATEVER THE INPUT: true; the input reads as it did. -/
def airCrowdSpec : ChangeSpec := { name := "airCrowd", fn := fun _ => fun
  | [d1, d2, d3] => { results := [.lit (.bool true)], args := [d1, d2, d3] }
  | _ => none }
def airCrowdRow : OpenClaim := { program := "ytommamngklobkaa", sum := "917abfbcaa2a49c4fc9804424d416026b766fe8f3e41d958729e613759f5b984", func := "squelch/squelchlaw15.AirCrowd", spec := "airCrowd", plainKeys := false, apart := false }
def AirCrowdSaid : Prop := airCrowdRow.holds Try.pinned (OpenSpec.ofChange airCrowdSpec)

/-- ITS FALSE NEIGHBOUR: 'it returns false'. Refute it at one input. -/
def airCrowdWrong : ChangeSpec := { name := "airCrowd", fn := fun _ => fun
  | [d1, d2, d3] => { results := [.lit (.bool false)], args := [d1, d2, d3] }
  | _ => none }
def AirCrowdWrongFalsely : Prop := airCrowdRow.holds Try.pinned (OpenSpec.ofChange airCrowdWrong)

/-- 'squelchlaw15.AirLong': WHATEVER THE INPUT: true; the input reads as it did. -/
def airLongSpec : ChangeSpec := { name := "airLong", fn := fun _ => fun
  | [d1, d2, d3] => { results := [.lit (.bool true)], args := [d1, d2, d3] }
  | _ => none }
def airLongRow : OpenClaim := { program := "ytommamngklobkaa", sum := "917abfbcaa2a49c4fc9804424d416026b766fe8f3e41d958729e613759f5b984", func := "squelch/squelchlaw15.AirLong", spec := "airLong", plainKeys := false, apart := false }
def AirLongSaid : Prop := airLongRow.holds Try.pinned (OpenSpec.ofChange airLongSpec)

/-- ITS FALSE NEIGHBOUR: 'it returns false'. Refute it at one input. -/
def airLongWrong : ChangeSpec := { name := "airLong", fn := fun _ => fun
  | [d1, d2, d3] => { results := [.lit (.bool false)], args := [d1, d2, d3] }
  | _ => none }
def AirLongWrongFalsely : Prop := airLongRow.holds Try.pinned (OpenSpec.ofChange airLongWrong)

/- THE SECOND FORM. 'bulk': how many values and letters a reading holds, each counted each time it is reached (what is shared counts as often as it is met; a slice's spare places count too). A statement '..UptoSaid' is the law's where the arguments, and the package variables that the reading takes, are together of bulk at most 1048576: NARROWER than '..Said'. Prove '..Said' where nothing that the law and all that it calls make is longer than what came in: it says more and counts as full. Else prove '..UptoSaid'. A law counts once. -/
mutual
def uptoBulk {H : Type} : DataW H → Nat
  | .lit (.string bytes) => bytes.length + 1
  | .lit _ => 1
  | .nil => 1
  | .ptr d => uptoBulk d + 1
  | .slice elems spare => uptoBulkAll elems + uptoBulkAll spare + 1
  | .agg parts => uptoBulkAll parts + 1
  | .iface _ d => uptoBulk d + 1
  | .map entries => uptoBulkEntries entries + 1
  | .held _ => 1
def uptoBulkAll {H : Type} : List (DataW H) → Nat
  | [] => 0
  | d :: r => uptoBulk d + uptoBulkAll r
def uptoBulkEntries {H : Type} : List (Lit × DataW H) → Nat
  | [] => 0
  | x :: r => uptoBulkEntry x + uptoBulkEntries r
def uptoBulkEntry {H : Type} : Lit × DataW H → Nat
  | (.string bytes, d) => bytes.length + uptoBulk d + 1
  | (_, d) => uptoBulk d + 1
 end
def uptoSmall : (H : Type) → List (DataW H) → Bool := fun _ ds => decide (uptoBulkAll ds ≤ 1048576)
def OpenSpec.upto (s : _root_.Go.ChangeSpec) : _root_.Go.OpenSpec := { _root_.Go.OpenSpec.ofChange s with cond := some uptoSmall }

/-- 'squelchlaw14.PlaceTurns', WHERE WHAT IT READS IS OF BULK AT MOST 1048576: true; the input reads as it did. -/
def placeTurnsUptoRow : OpenClaim := { program := "ytommamngklobkaa", sum := "917abfbcaa2a49c4fc9804424d416026b766fe8f3e41d958729e613759f5b984", func := "squelch/squelchlaw14.PlaceTurns", spec := "placeTurns", plainKeys := false, apart := false, narrowed := true }
def PlaceTurnsUptoSaid : Prop := placeTurnsUptoRow.holds Try.pinned (OpenSpec.upto placeTurnsSpec)

/-- 'squelchlaw15.AirCrowd', WHERE WHAT IT READS IS OF BULK AT MOST 1048576: true; the input reads as it did. -/
def airCrowdUptoRow : OpenClaim := { program := "ytommamngklobkaa", sum := "917abfbcaa2a49c4fc9804424d416026b766fe8f3e41d958729e613759f5b984", func := "squelch/squelchlaw15.AirCrowd", spec := "airCrowd", plainKeys := false, apart := false, narrowed := true }
def AirCrowdUptoSaid : Prop := airCrowdUptoRow.holds Try.pinned (OpenSpec.upto airCrowdSpec)

/-- 'squelchlaw15.AirLong', WHERE WHAT IT READS IS OF BULK AT MOST 1048576: true; the input reads as it did. -/
def airLongUptoRow : OpenClaim := { program := "ytommamngklobkaa", sum := "917abfbcaa2a49c4fc9804424d416026b766fe8f3e41d958729e613759f5b984", func := "squelch/squelchlaw15.AirLong", spec := "airLong", plainKeys := false, apart := false, narrowed := true }
def AirLongUptoSaid : Prop := airLongUptoRow.holds Try.pinned (OpenSpec.upto airLongSpec)

end Rows
end Go.Proofs.Ytommamngklobkaa
