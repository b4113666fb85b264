/- Where a piece of code stands. No conditions: a definition alone. -/
import Derived.Test.YtgljampcnbgbhaaGreatDoorEv
set_option linter.unusedVariables false
set_option linter.unusedSimpArgs false
namespace Go.Proofs.YtgljampcnbgbhaaGreatDoor.Ev
open Go
def nav : List Nat → Code → Code
  | [], c => c
  | i :: p, c => match c with
    | .seq a b => match i with
      | 0 => nav p a
      | _ => nav p b
    | .cond _ a b => match i with
      | 0 => nav p a
      | _ => nav p b
    | .block _ b => nav p b
    | .loop b => nav p b
    | .scope b => nav p b
    | c => c
def bodyOf (f : Func) : Code := match f.body with
  | some c => c
  | none => .skip
end Go.Proofs.YtgljampcnbgbhaaGreatDoor.Ev
