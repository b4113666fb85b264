/- What is known, held against what is written down: definitions alone. No conditions. -/
import Derived.Test.YtgljampcnbgbhaaGreatDoorEv
set_option linter.unusedVariables false
set_option linter.unusedSimpArgs false
namespace Go.Proofs.YtgljampcnbgbhaaGreatDoor.Ev
open Go
noncomputable section

/-- A number that is not known in words of others: which one, and how much more. -/
abbrev Form := Option Nat × Int
abbrev Sig := Nat → Form
def idS : Sig := fun i => (some i, 0)
/-- Numbers that are known. -/
def konS (x y : Int) : Sig := fun i => match i with
  | 0 => (none, x)
  | _ => (none, y)
/-- A tick on. -/
def onS : Sig := fun i => match i with
  | 0 => (some 0, 1)
  | i => (some i, -1)
def formV (σ : Sig) (v : Value) : Option Form := match v with
  | .int .i64 n => some (none, n)
  | .chan (some k) => match symDec k with
    | some (i, d) => match σ i with
      | (b, e) => some (b, e + d)
    | none => none
  | _ => none
def eqForm : Form → Form → Bool
  | (a, d), (b, e) => match eqO Nat.beq a b with
    | true => decide (d = e)
    | false => false
section
variable (σ τ : Sig) (cap : Nat)
/-- Whatever u stands for in the one reading, v stands for in the other. -/
def leV : Nat → Value → Value → Bool
  | 0, _, _ => false
  | f + 1, v, u => match v, u with
    | .bool a, .bool b => a == b
    | .int j a, .int k b => match decide (j = k) with
      | true => decide (a = b)
      | false => false
    | .float j a, .float k b => decide (j = k) && Nat.beq a b
    | .complex j a c, .complex k b d => decide (j = k) && (Nat.beq a b && Nat.beq c d)
    | .string a, .string b => eqS a b
    | .pointer none, .pointer none => true
    | .pointer (some a), .pointer (some b) => eqA a b && Nat.blt a.block cap
    | .slice none l c, .slice none m d => Nat.beq l m && Nat.beq c d
    | .slice (some a) l c, .slice (some b) m d => eqA a b && (Nat.blt a.block cap && (Nat.beq l m && Nat.beq c d))
    | .map none, .map none => true
    | .map (some a), .map (some b) => Nat.beq a b && Nat.blt a cap
    | .func (.func g) a c, .func (.func h) b d => Nat.beq g h && (eqL (leV f) a.toList b.toList && eqL (leV f) c.toList d.toList)
    | .nilFunc, .nilFunc => true
    | .iface t v, .iface u w => Nat.beq t u && leV f v w
    | .nilIface, .nilIface => true
    | .agg a, .agg b => eqL (leV f) a.toList b.toList
    | .tuple a, .tuple b => eqL (leV f) a.toList b.toList
    | .chan (some k), .chan (some j) => match Nat.blt k 1000 with
      | true => Nat.beq k j
      | false => match formV σ v, formV τ u with
        | some a, some b => eqForm a b
        | _, _ => false
    | v, u => match formV σ v, formV τ u with
      | some a, some b => eqForm a b
      | _, _ => false
def leT : Tr Value → Tr Value → Bool
  | .e, _ => true
  | .n v l r, .n u l' r' => match (match v, u with
      | none, _ => true
      | some x, some y => leV σ τ cap 20 x y
      | _, _ => false) with
    | true => match leT l l' with
      | true => leT r r'
      | false => false
    | false => false
  | .n v l r, .e => match v with
    | none => match leT l .e with
      | true => leT r .e
      | false => false
    | some _ => false
def leE : List MapEntry → List MapEntry → Bool
  | [], [] => true
  | e :: l, e' :: l' => match leV σ τ cap 20 e.key e'.key && (leV σ τ cap 20 e.val e'.val && Nat.beq e.born e'.born) with
    | true => leE l l'
    | false => false
  | _, _ => false
def leB : Blk → Blk → Bool
  | .cells ro el n t, .cells ro' el' n' t' => (ro == ro') && (Nat.beq el el' && (eqO Nat.beq n n' && leT σ τ cap t t'))
  | .mp es c, .mp es' c' => leE σ τ cap es es' && Nat.beq c c'
  | .dr, .dr => true
  | _, _ => false
/-- What is written down holds, as far as it goes. -/
def leH (H : Heap) : List (Nat × Blk) → Bool
  | [] => true
  | (b, k) :: l => match H.get b, Nat.blt b cap with
    | some k', true => match leB σ τ cap k k' with
      | true => leH H l
      | false => false
    | _, _ => false
end
/-- The tree of what is written down. -/
def ofPairs {R : Type} : List (Nat × Blk) → Heap → (Heap → R) → R
  | [], t, K => K t
  | (k, x) :: l, t, K => t.setK k (some x) fun t => ofPairs l t K
def leTs (σ τ : Sig) (cap : Nat) (T : Tr Value) : List (Nat × Value) → Bool
  | [] => true
  | (t, v) :: l => match T.get t with
    | some u => match leV σ τ cap 20 v u with
      | true => leTs σ τ cap T l
      | false => false
    | none => false
end
end Go.Proofs.YtgljampcnbgbhaaGreatDoor.Ev
