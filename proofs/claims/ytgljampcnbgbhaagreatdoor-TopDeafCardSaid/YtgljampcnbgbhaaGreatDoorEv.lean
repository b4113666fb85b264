/- An evaluator over an abstract heap: what it computes is shown sound in later texts. No conditions here: definitions alone. -/
import GoSem.Step
set_option linter.unusedVariables false
set_option linter.unusedSimpArgs false
namespace Go.Proofs.YtgljampcnbgbhaaGreatDoor.Ev
open Go
noncomputable section

/-- A binary trie. -/
inductive Tr (α : Type) where
  | e
  | n (v : Option α) (l r : Tr α)
  deriving Inhabited

/-- The path of a key: the digits of k + 1 but for the foremost, the last one first. -/
def pathF : Nat → Nat → List Bool
  | 0, _ => []
  | f + 1, k => match Nat.ble k 1 with
    | true => []
    | false => Nat.beq (Nat.mod k 2) 1 :: pathF f (Nat.div k 2)
/-- The same, by recursors: the kernel is faster at them. -/
def pathR (f : Nat) : Nat → List Bool :=
  Nat.rec (motive := fun _ => Nat → List Bool) (fun _ => []) (fun _ ih k => Bool.rec (motive := fun _ => List Bool) (Nat.beq (Nat.mod k 2) 1 :: ih (Nat.div k 2)) [] (Nat.ble k 1)) f
def path (k : Nat) : List Bool := pathR (Nat.succ k) (Nat.succ k)

namespace Tr
variable {α : Type}
def getP : List Bool → Tr α → Option α
  | [], t => match t with
    | .e => none
    | .n v _ _ => v
  | b :: p, t => match t with
    | .e => none
    | .n _ l r => match b with
      | true => getP p r
      | false => getP p l
/-- The same, by recursors: the kernel is faster at them. -/
def getR (p : List Bool) : Tr α → Option α :=
  List.rec (motive := fun _ => Tr α → Option α) (fun t => Tr.rec (motive := fun _ => Option α) none (fun v _ _ _ _ => v) t)
    (fun b _ ih t => Tr.rec (motive := fun _ => Option α) none (fun _ l r _ _ => Bool.rec (motive := fun _ => Option α) (ih l) (ih r) b) t) p
def get (t : Tr α) (k : Nat) : Option α := getR (path k) t
/-- Sets, and goes on with the tree. -/
def setP {R : Type} (x : Option α) : List Bool → Tr α → (Tr α → R) → R
  | [], t, K => match t with
    | .e => K (.n x .e .e)
    | .n _ l r => K (.n x l r)
  | b :: p, t, K => match t with
    | .e => match b with
      | true => setP x p .e fun r => K (.n none .e r)
      | false => setP x p .e fun l => K (.n none l .e)
    | .n v l r => match b with
      | true => setP x p r fun r => K (.n v l r)
      | false => setP x p l fun l => K (.n v l r)
def setR {R : Type} (x : Option α) (p : List Bool) : Tr α → (Tr α → R) → R :=
  List.rec (motive := fun _ => Tr α → (Tr α → R) → R) (fun t K => Tr.rec (motive := fun _ => R) (K (.n x .e .e)) (fun _ l r _ _ => K (.n x l r)) t)
    (fun b _ ih t K => Tr.rec (motive := fun _ => R) (Bool.rec (motive := fun _ => R) (ih .e fun l => K (.n none l .e)) (ih .e fun r => K (.n none .e r)) b)
       (fun v l r _ _ => Bool.rec (motive := fun _ => R) (ih l fun l => K (.n v l r)) (ih r fun r => K (.n v l r)) b) t) p
def setK {R : Type} (t : Tr α) (k : Nat) (x : Option α) (K : Tr α → R) : R := setR x (path k) t K
def sets {R : Type} : List α → Nat → Tr α → (Tr α → R) → R
  | [], _, t, K => K t
  | x :: xs, i, t, K => setK t i (some x) fun t => sets xs (Nat.succ i) t K
def ofList {R : Type} (l : List α) (K : Tr α → R) : R := sets l 0 .e K
end Tr

/-- From here on a capacity is not known: it is the slice's length at least. -/
def cap0 : Nat := 18446744073709551616
/-- A capacity that is not known, at elements of so many cells. -/
def capU (sz : Nat) : Nat := cap0 + 2 * sz
/-- An empty slice of some place, of a capacity that is not known. -/
def capE (sz : Nat) : Nat := cap0 + 2 * sz + 1

inductive Blk where
  | cells (ro : Bool) (el : TypeId) (n : Option Nat) (t : Tr Value)
  | mp (es : List MapEntry) (clock : Nat)
  | mit (m : Option Nat) (since : Nat) (seen : List Nat) (stepped : Nat)
  | sit (s : ByteArray) (pos : Nat)
  | dr
  deriving Inhabited

abbrev Heap := Tr Blk

inductive Ex where
  | normal | exit (id : Nat) | goto (l : Nat) | ret
  deriving Inhabited, DecidableEq

section
variable {R : Type}
def forceN (n : Nat) (K : Nat → R) : R := match n with
  | 0 => K 0
  | m + 1 => K (m + 1)
def forceI (i : Int) (K : Int → R) : R := match i with
  | .ofNat n => forceN n fun n => K (.ofNat n)
  | .negSucc n => forceN n fun n => K (.negSucc n)
def forceB (b : Bool) (K : Bool → R) : R := match b with
  | true => K true
  | false => K false
def forceU (u : UInt8) (K : UInt8 → R) : R := forceN u.toNat fun n => K (UInt8.ofNat n)
def forceUs : List UInt8 → (List UInt8 → R) → R
  | [], K => K []
  | u :: us, K => forceU u fun u => forceUs us fun us => K (u :: us)
def forceS (s : ByteArray) (K : ByteArray → R) : R := match s with
  | ⟨⟨l⟩⟩ => forceUs l fun l => K ⟨⟨l⟩⟩
def forceV (v : Value) (K : Value → R) : R := match v with
  | .bool b => forceB b fun b => K (.bool b)
  | .int k n => forceI n fun n => K (.int k n)
  | .float k n => forceN n fun n => K (.float k n)
  | .complex k a b => forceN a fun a => forceN b fun b => K (.complex k a b)
  | .string s => forceS s fun s => K (.string s)
  | v => K v
/-- The list, walked to its end. -/
def forceL {α : Type} : List α → (List α → R) → R
  | [], K => K []
  | x :: l, K => forceL l fun l => K (x :: l)
end

/-- No address in it. -/
def af : Nat → Value → Bool
  | 0, _ => false
  | f + 1, v => match v with
    | .bool _ | .int _ _ | .float _ _ | .complex _ _ _ | .string _ | .nilFunc | .nilIface => true
    | .pointer none | .map none => true
    | .slice none l c => Nat.ble l c
    | .iface _ v => af f v
    | .agg cs => cs.toList.all (af f)
    | .tuple cs => cs.toList.all (af f)
    | _ => false

/-- What a program does that looks into no memory. -/
def pureRun {α : Type} (P : Program) : Sem α → Option α
  | .pure a => some a
  | .program k => pureRun P (k P)
  | .mark _ k => pureRun P k
  | _ => none

/-! Numbers that are not known: '.chan (some 0)': what was handed over; 1: a byte's number; 2: a number of at least 1; from 1000 on: the number i and d more. -/
def symLo : Nat → Int
  | 0 => 0
  | _ => 2
def symHi : Nat → Int := fun _ => 1000
def symDec (k : Nat) : Option (Nat × Int) := match Nat.ble 1000 k with
  | true => some ((k - 1000) / 100000, ((k - 1000) % 100000 : Nat) - 50000)
  | false => none
def symEnc (i : Nat) (d : Int) : Option Nat := match d + 50000 with
  | .ofNat e => match Nat.blt e 100000 with
    | true => some (1000 + 100000 * i + e)
    | false => none
  | .negSucc _ => none
/-- The number i and d more against n. -/
def symCmp (op : BinOp) (i : Nat) (d n : Int) : Option Bool := match op with
  | .lss => if symHi i + d < n then some true else if n ≤ symLo i + d then some false else none
  | .leq => if symHi i + d ≤ n then some true else if n < symLo i + d then some false else none
  | .gtr => if n < symLo i + d then some true else if symHi i + d ≤ n then some false else none
  | .geq => if n ≤ symLo i + d then some true else if symHi i + d < n then some false else none
  | .eql => if n < symLo i + d then some false else if symHi i + d < n then some false else none
  | .neq => if n < symLo i + d then some true else if symHi i + d < n then some true else none
  | _ => none

def takeL {α : Type} : Nat → List α → List α
  | 0, _ => []
  | n + 1, l => match l with
    | [] => []
    | x :: l => x :: takeL n l
def dropL {α : Type} : Nat → List α → List α
  | 0, l => l
  | n + 1, l => match l with
    | [] => []
    | _ :: l => dropL n l
def lenL {α : Type} : List α → Nat
  | [] => 0
  | _ :: l => Nat.succ (lenL l)
def nth {α : Type} : List α → Nat → Option α
  | [], _ => none
  | x :: l, n => match n with
    | 0 => some x
    | n + 1 => nth l n
def repL (n : Nat) (l : List Value) : List Value := match n with
  | 0 => []
  | n + 1 => l ++ repL n l
def isNilL {α : Type} : List α → Bool
  | [] => true
  | _ :: _ => false

section
variable (P : Program) (T : Tr Value) (H : Heap)

def opd (x : Operand) : Option Value := match x with
  | .tmp t => T.get t
  | .const v => match af 5 v with
    | true => some v
    | false => none
  | .global g => match Nat.blt g 16 with
    | true => some (.pointer (some ⟨g, 0, none⟩))
    | false => none
  | .func f => some (.func (.func f) #[] #[])
def opds : List Operand → Option (List Value)
  | [] => some []
  | x :: xs => do
    let v ← opd T x
    let vs ← opds xs
    some (v :: vs)
def opdO (x : Option Operand) : Option (Option Value) := match x with
  | none => some none
  | some x => do
    let v ← opd T x
    some (some v)

/-- A block's cells. -/
def blkOf (b : Nat) : Option (Bool × TypeId × Option Nat × Tr Value) := match H.get b with
  | some (.cells ro el n t) => some (ro, el, n, t)
  | _ => none
/-- n cells from i on. -/
def cellsAt (t : Tr Value) : Nat → Nat → Option (List Value)
  | 0, _ => some []
  | n + 1, i => do
    let v ← t.get i
    let vs ← cellsAt t n (Nat.succ i)
    some (v :: vs)
def isAggB (t : TypeId) : Option Bool := match P.underlying t with
  | some (.struct _) | some (.array _ _) => some true
  | some _ => some false
  | none => none
def sizeB (t : TypeId) : Nat := match P.info? t with
  | some i => i.size
  | none => 0
/-- How many cells, at least one. -/
def szB (t : TypeId) : Option Nat := match P.info? t with
  | some i => match Nat.beq i.size 0 with
    | true => none
    | false => some i.size
  | none => none
def zeroB (t : TypeId) : Option Value := match P.info? t with
  | some i => match i.zero with
    | some z => match af 5 z with
      | true => some z
      | false => none
    | none => none
  | none => none
def cellsV (v : Value) : List Value := match v with
  | .agg cs => cs.toList
  | v => [v]

def ldVar (t : TypeId) (a : Addr) : Option Value :=
  match a.spot with
  | some _ => none
  | none => do
    let (_, _, _, tr) ← blkOf H a.block
    match isAggB P t with
    | some true => do
      let cs ← cellsAt tr (sizeB P t) a.off
      some (.agg ⟨cs⟩)
    | some false => tr.get a.off
    | none => none

/-- Stores into cells that are there. -/
def oneB : Value → Bool
  | .agg _ | .tuple _ => false
  | _ => true
def putCells {R : Type} : List Value → Nat → Tr Value → (Tr Value → Option R) → Option R
  | [], _, t, K => K t
  | v :: vs, i, t, K => match t.get i, oneB v with
    | some _, true => t.setK i (some v) fun t => putCells vs (Nat.succ i) t K
    | _, _ => none
def stCells {R : Type} (a : Addr) (vs : List Value) (K : Heap → Option R) : Option R :=
  match a.spot with
  | some _ => none
  | none => match blkOf H a.block with
    | some (false, el, n, tr) => putCells vs a.off tr fun tr => H.setK a.block (some (.cells false el n tr)) K
    | _ => none

/-- cs laid into zs at off. -/
def patch (zs : List Value) (off : Nat) (cs : List Value) : List Value := takeL off zs ++ cs ++ dropL (off + lenL cs) zs
def fillB (place : Nat → Option (Nat × Nat)) : List (Nat × Value) → List Value → Option (List Value)
  | [], zs => some zs
  | (i, v) :: rest, zs => match place i with
    | none => none
    | some (off, size) => match Nat.beq (lenL (cellsV v)) size && Nat.ble (off + size) (lenL zs) with
      | true => forceL (patch zs off (cellsV v)) fun zs => fillB place rest zs
      | false => none
def partsV : List (Nat × Operand) → Option (List (Nat × Value))
  | [] => some []
  | (i, x) :: ps => do
    let v ← opd T x
    let vs ← partsV ps
    some ((i, v) :: vs)

def fieldOf (t : TypeId) (f : Nat) : Option Field := match P.underlying t with
  | some (.struct fs) => nth fs.toList f
  | _ => none
def partF (t : TypeId) (cs : List Value) (off : Nat) : Option Value := match isAggB P t with
  | none => none
  | some true => match Nat.ble (off + sizeB P t) (lenL cs) with
    | true => forceL (takeL (sizeB P t) (dropL off cs)) fun l => some (.agg ⟨l⟩)
    | false => none
  | some false => nth cs off

/-- A binary operation on whole numbers of one kind. -/
def intOp (op : BinOp) (k : IntKind) (a b : Int) : Option Value := match op with
  | .add => some (.int k (k.wrap (a + b)))
  | .sub => some (.int k (k.wrap (a - b)))
  | .eql => some (.bool (decide (a = b)))
  | .neq => some (.bool (!decide (a = b)))
  | .lss => some (.bool (decide (a < b)))
  | .leq => some (.bool (decide (a ≤ b)))
  | .gtr => some (.bool (decide (b < a)))
  | .geq => some (.bool (decide (b ≤ a)))
  | _ => none

/-- Against nil. -/
def eqNil (t : TypeId) (x y : Value) : Option Bool := match P.underlying t with
  | some (.pointer _) => match x, y with
    | .pointer none, .pointer none => some true
    | .pointer (some _), .pointer none => some false
    | .pointer none, .pointer (some _) => some false
    | _, _ => none
  | some (.map _ _) => match x, y with
    | .map none, .map none => some true
    | .map (some _), .map none => some false
    | .map none, .map (some _) => some false
    | _, _ => none
  | some (.slice _) => match x, y with
    | .slice none _ _, .slice none _ _ => some true
    | .slice (some _) _ _, .slice none _ _ => some false
    | .slice none _ _, .slice (some _) _ _ => some false
    | _, _ => none
  | some (.func _ _ _) => match x, y with
    | .nilFunc, .nilFunc => some true
    | .func (.func _) _ _, .nilFunc => some false
    | .nilFunc, .func (.func _) _ _ => some false
    | _, _ => none
  | _ => none

/-- A value that pure code made: no address in it. -/
def outV (v : Value) : Option Value := match af 5 v with
  | true => forceV v some
  | false => none
def binSlow (op : BinOp) (t : TypeId) (x y : Operand) (a b : Value) : Option Value :=
  match af 5 a && af 5 b with
  | true => match pureRun P (do eqGuard op t x y a b; binOp op t a b) with
    | some v => outV v
    | none => none
  | false => none
def binSym (op : BinOp) (k : Nat) (b : Int) : Option Value := match k with
  | 0 => none
  | 1 => match op, b with
    | .and, .ofNat 255 => some (.chan (some 1))
    | .leq, .ofNat 255 => some (.bool true)
    | _, _ => none
  | 2 => match op, b with
    | .eql, .ofNat 0 => some (.bool false)
    | _, _ => none
  | k => do
    let (i, d) ← symDec k
    match op with
    | .add => do
      let k ← symEnc i (d + b)
      forceN k fun k => some (.chan (some k))
    | .sub => do
      let k ← symEnc i (d - b)
      forceN k fun k => some (.chan (some k))
    | op => do
      let r ← symCmp op i d b
      some (.bool r)
/-- An address against itself. -/
def binPtr (op : BinOp) (t : TypeId) (a b : Addr) : Option Value :=
  match P.underlying t, Nat.beq a.block b.block && Nat.beq a.off b.off, a.spot, b.spot with
  | some (.pointer e), true, none, none => do
    let _ ← szB P e
    match op with
    | .eql => some (.bool true)
    | .neq => some (.bool false)
    | _ => none
  | _, _, _, _ => none
def binF (op : BinOp) (t : TypeId) (x y : Operand) (a b : Value) : Option Value :=
  match a, b with
  | .int k m, .int k' n => match decide (k = k') with
    | true => match intOp op k m n with
      | some v => forceV v some
      | none => binSlow P op t x y a b
    | false => binSlow P op t x y a b
  | .chan (some k), .int .i64 n => binSym op k n
  | .pointer (some m), .pointer (some n) => binPtr P op t m n
  | a, b => match eqNil P t a b, op with
    | some r, .eql => some (.bool r)
    | some r, .neq => forceB (!r) fun r => some (.bool r)
    | _, _ => binSlow P op t x y a b

/-- A bound: a number between 0 and y. -/
def bound (v : Value) (y : Nat) : Option Nat := match v with
  | .int _ (.ofNat n) => match Nat.ble n y with
    | true => forceN n some
    | false => none
  | _ => none
def boundO (v : Option Value) (d y : Nat) : Option Nat := match v with
  | none => some d
  | some v => bound v y
/-- The upper bound at a slice of unknown capacity: its length at most, or as far as cells are known. -/
def boundU (sz : Nat) (a : Addr) (len : Nat) (hi : Option Value) : Option Nat := match hi with
  | none => some len
  | some v => match v with
    | .int _ (.ofNat h) => match Nat.ble h len with
      | true => forceN h some
      | false => match blkOf H a.block with
        | some (_, _, none, t) => match t.get (a.off + h * sz - 1) with
          | some _ => forceN h some
          | none => none
        | _ => none
    | _ => none
/-- A slice's address, l elements on. -/
def stepA (sz : Nat) (a : Addr) (l len cap : Nat) : Option Value :=
  forceN (a.off + l * sz) fun o => forceN len fun n => forceN cap fun m => some (.slice (some ⟨a.block, o, none⟩) n m)
def sliceF (t : TypeId) (x : Value) (lo hi mx : Option Value) : Option Value :=
  match mx with
  | some mv => match P.underlying t, x, hi with
    | some (.slice e), .slice (some a) len cap, some hv => match a.spot with
      | none => do
        let sz ← szB P e
        let m ← bound mv (match Nat.ble cap0 cap with | true => len | false => cap)
        let h ← bound hv m
        let l ← boundO lo 0 h
        match Nat.beq cap (capE sz), Nat.beq m l || Nat.beq l 0 with
        | true, _ => none
        | false, true => match (Nat.beq cap (capU sz) || Nat.blt cap cap0) && Nat.blt m cap0 with
          | true => forceN (h - l) fun n => forceN (m - l) fun k => some (.slice (some a) n k)
          | false => none
        | false, false => match (Nat.beq cap (capU sz) || Nat.blt cap cap0) && Nat.blt m cap0 with
          | true => stepA sz a l (h - l) (m - l)
          | false => none
      | some _ => none
    | _, _, _ => none
  | none => match P.underlying t, x with
    | some .string, .string ⟨⟨bs⟩⟩ => do
      let h ← boundO hi (lenL bs) (lenL bs)
      let l ← boundO lo 0 h
      forceL (takeL (h - l) (dropL l bs)) fun bs => some (.string ⟨⟨bs⟩⟩)
    | some (.slice e), .slice (some a) len cap =>
      match a.spot with
      | some _ => none
      | none => do
        let sz ← szB P e
        match Nat.beq cap (capE sz), Nat.beq cap (capU sz), Nat.ble cap0 cap with
        | true, _, _ => do
          let h ← boundO hi len len
          let l ← boundO lo 0 h
          match Nat.beq l 0 && (Nat.beq h 0 && Nat.beq len 0) with
          | true => some (.slice (some a) 0 cap)
          | false => none
        | false, true, _ => do
          let h ← boundU H sz a len hi
          let l ← boundO lo 0 h
          match Nat.beq l 0 with
          | true => forceN (h - l) fun n => some (.slice (some a) n cap)
          | false => match Nat.beq l h && Nat.ble len h with
            | true => stepA sz a l 0 (capE sz)
            | false => stepA sz a l (h - l) cap
        | false, false, true => none
        | false, false, false => do
          let h ← boundO hi len cap
          let l ← boundO lo 0 h
          match Nat.beq cap l || Nat.beq l 0 with
          | true => forceN (h - l) fun n => forceN (cap - l) fun m => some (.slice (some a) n m)
          | false => stepA sz a l (h - l) (cap - l)
    | some (.slice e), .slice none len cap => do
        let _ ← szB P e
        let h ← boundO hi len cap
        let l ← boundO lo 0 h
        forceN (h - l) fun n => forceN (cap - l) fun m => some (.slice none n m)
    | some (.array n e), .pointer (some a) => match a.spot with
      | some _ => none
      | none => do
          let sz ← szB P e
          let h ← boundO hi n n
          let l ← boundO lo 0 h
          match Nat.blt n cap0 with
          | false => none
          | true => match Nat.beq n l || Nat.beq l 0 with
            | true => forceN (h - l) fun k => forceN (n - l) fun m => some (.slice (some a) k m)
            | false => stepA sz a l (h - l) (n - l)
    | _, _ => none

def indexF (t : TypeId) (x i : Value) : Option Value := match i with
  | .int _ (.ofNat i) => match P.underlying t, x with
    | some .string, .string ⟨⟨bs⟩⟩ => do
      let b ← nth bs i
      forceN b.toNat fun n => some (.int .u8 (.ofNat n))
    | some (.array len e), .agg ⟨cs⟩ => match Nat.blt i len with
      | true => do
        let sz ← szB P e
        partF P e cs (i * sz)
      | false => none
    | _, _ => none
  | _ => none

/-- Where a key stands among entries (whose values are not looked at). -/
def keyIx (empty : Bool) (kt : TypeId) (k : Value) (es : List MapEntry) : Option (Option (Nat × Value)) :=
  match af 5 k && es.all fun e => af 5 e.key with
  | true => pureRun P (do Instr.checkKey empty 10000 kt k; Instr.findKey kt k (es.map fun e => { e with val := undef }))
  | false => none
def mapOf (x : Value) : Option (List MapEntry) := match x with
  | .map none => some []
  | .map (some r) => match H.get r with
    | some (.mp es _) => some es
    | _ => none
  | _ => none
def lookupF (t : TypeId) (x k : Value) (ok : Bool) : Option Value :=
  match P.underlying t with
  | some (.map kt el) => do
    let es ← mapOf H x
    let r ← keyIx P (isNilL es) kt k es
    match r with
    | some (i, _) => do
      let e ← nth es i
      match ok with
      | true => some (.tuple ⟨[e.val, .bool true]⟩)
      | false => some e.val
    | none => do
      let z ← zeroB P el
      match ok with
      | true => some (.tuple ⟨[z, .bool false]⟩)
      | false => some z
  | _ => none

def lastN : List Nat → Option Nat
  | [] => none
  | n :: l => match l with
    | [] => some n
    | _ :: _ => lastN l
def bornB (s : Nat) : List MapEntry → Option MapEntry
  | [] => none
  | e :: es => match Nat.beq e.born s with
    | true => some e
    | false => bornB s es
def entryF (it : Value) : Option Value :=
  match it with
  | .pointer (some ⟨r, 0, none⟩) => match H.get r with
    | some (.mit (some m) _ seen stepped) => match lastN seen, H.get m with
      | some s, some (.mp es clock) => match Nat.beq clock stepped, bornB s es with
        | true, some e => some (.tuple ⟨[e.key, e.val]⟩)
        | _, _ => none
      | _, _ => none
    | _ => none
  | _ => none

def bytesOf : List Value → Option (List UInt8)
  | [] => some []
  | v :: vs => match v with
    | .int .u8 n => forceU (UInt8.ofNat n.toNat) fun u => do
      let us ← bytesOf vs
      some (u :: us)
    | _ => none
/-- A conversion that makes no memory. -/
def convV (src dst : TypeId) (x : Value) : Option Value :=
  match P.underlying src, P.underlying dst, x with
  | some (.pointer t), some .unsafePointer, .pointer (some a) => match Nat.beq (sizeB P t) 0, a.spot with
    | false, none => do
      let (_, _, _, tr) ← blkOf H a.block
      let _ ← tr.get a.off
      some x
    | _, _ => none
  | some .unsafePointer, some (.pointer u), .pointer (some a) => match Nat.beq (sizeB P u) 0, a.spot with
    | false, none => do
      let (_, el, n, _) ← blkOf H a.block
      let n ← n
      match liesAt P P.depth el (n / P.cellsOf el) a.off u 1 with
      | true => some x
      | false => none
    | _, _ => none
  | some (.int _), some (.int k), .int _ n => forceI (k.wrap n) fun n => some (.int k n)
  | some .string, some .string, .string _ => some x
  | some (.slice e), some .string, .slice base len _ => match P.underlying e, base with
    | some (.int .u8), none => some (.string ⟨⟨[]⟩⟩)
    | some (.int .u8), some a => match a.spot with
      | some _ => none
      | none => match Nat.beq len 0 with
        | true => some (.string ⟨⟨[]⟩⟩)
        | false => do
          let (_, _, _, t) ← blkOf H a.block
          let cs ← cellsAt t len a.off
          let bs ← bytesOf cs
          some (.string ⟨⟨bs⟩⟩)
    | _, _ => none
  | _, _, _ => match af 5 x with
    | true => match pureRun P (convert src dst x) with
      | some v => outV v
      | none => none
    | false => none

def atF (a : Addr) (i n : Nat) (e : TypeId) : Option Value := match a.spot, Nat.blt i n with
  | none, true => do
    let sz ← szB P e
    forceN (a.off + i * sz) fun o => some (.pointer (some ⟨a.block, o, none⟩))
  | _, _ => none

def lenF (t : TypeId) (x : Value) : Option Value := match P.underlying t, x with
  | some .string, .string ⟨⟨bs⟩⟩ => forceN (lenL bs) fun n => some (.int .i64 (.ofNat n))
  | some (.slice _), .slice _ n _ => some (.int .i64 (.ofNat n))
  | some (.map _ _), .map none => some (.int .i64 (.ofNat 0))
  | some (.map _ _), .map (some r) => match H.get r with
    | some (.mp es _) => forceN (lenL es) fun n => some (.int .i64 (.ofNat n))
    | _ => none
  | some (.array n _), _ => some (.int .i64 (.ofNat n))
  | some (.pointer a), _ => match P.underlying a with
    | some (.array n _) => some (.int .i64 (.ofNat n))
    | _ => none
  | _, _ => none

def isConstO : Operand → Bool
  | .const _ => true
  | _ => false
/-- A builtin that makes and turns no memory. -/
def builtinV (b : Builtin) (ts : List TypeId) (ty : TypeId) (xs : List Operand) (vs : List Value) : Option Value :=
  match b, ts, vs with
  | .len, t :: _, [x] => lenF P H t x
  | .cap, t :: _, [.slice b l n] => match P.underlying t, Nat.ble cap0 n, b, Nat.beq l 0 with
    | some (.slice _), false, _, _ => some (.int .i64 (.ofNat n))
    | some (.slice _), true, some _, false => some (.chan (some 2))
    | _, _, _, _ => none
  | .unsafeSliceData, _, [.slice none _ _] => some (.pointer none)
  | .unsafeSliceData, _, [.slice (some a) n _] => match Nat.beq n 0 with
    | true => none
    | false => some (.pointer (some a))
  | .min, _, vs | .max, _, vs | .real, _, vs | .imag, _, vs | .complex, _, vs => match vs.all (af 5) with
    | true => match pureRun P (builtin b ts.toArray ty (xs.map isConstO).toArray vs.toArray) with
      | some (.value v) => outV v
      | _ => none
    | false => none
  | _, _, _ => none

/-- Operations that leave memory as it is. -/
def opV (o : Oper) : Option Value :=
  match o.op with
  | .move x | .assign x => opd T x
  | .pick x a b => do
    match ← opd T x with
    | .bool true => opd T a
    | .bool false => opd T b
    | _ => none
  | .build t ps => do
    let vs ← partsV T ps.toList
    match P.underlying t, zeroB P t with
    | some (.struct fs), some z => match fs.toList.all fun f => (P.info? f.type).isSome with
     | false => none
     | true => do
      let cs ← fillB (fun i => match nth fs.toList i with
        | some f => some (f.offset, sizeB P f.type)
        | none => none) vs (cellsV z)
      some (.agg ⟨cs⟩)
    | some (.array _ e), some z => do
      let sz ← szB P e
      let cs ← fillB (fun i => some (i * sz, sz)) vs (cellsV z)
      some (.agg ⟨cs⟩)
    | _, _ => none
  | .load t x => do
    match ← opd T x with
    | .pointer (some a) => ldVar P H t a
    | _ => none
  | .nilCheck x => do
    match ← opd T x with
    | .pointer (some a) => some (.pointer (some a))
    | .func (.func f) a b => some (.func (.func f) a b)
    | _ => none
  | .binOp op t x y _ => do
    let a ← opd T x
    let b ← opd T y
    binF P op t x y a b
  | .unOp op _ x => do
    let v ← opd T x
    match op, v with
    | .not, .bool b => forceB (!b) fun b => some (.bool b)
    | _, _ => match af 5 v with
      | true => match pureRun P (Op.unary op v) with
        | some v => outV v
        | none => none
      | false => none
  | .convert s d x => do
    let v ← opd T x
    convV P H s d v
  | .makeFunc f first cap => do
    let a ← opds T first.toList
    let b ← opds T cap.toList
    match f with
    | .func f => some (.func (.func f) ⟨a⟩ ⟨b⟩)
    | _ => none
  | .slice t x lo hi mx => do
    let x ← opd T x
    let lo ← opdO T lo
    let hi ← opdO T hi
    let mx ← opdO T mx
    sliceF P H t x lo hi mx
  | .fieldAddr t x f => do
    match ← opd T x, fieldOf P t f with
    | .pointer (some a), some fd => match a.spot, Nat.beq (sizeB P fd.type) 0 with
      | none, false => forceN (a.off + fd.offset) fun o => some (.pointer (some ⟨a.block, o, none⟩))
      | _, _ => none
    | _, _ => none
  | .field t x f => do
    match ← opd T x, fieldOf P t f with
    | .agg ⟨cs⟩, some fd => partF P fd.type cs fd.offset
    | _, _ => none
  | .indexAddr t x i => do
    let x ← opd T x
    match ← opd T i with
    | .int _ (.ofNat i) => match P.underlying t, x with
      | some (.array n e), .pointer (some a) => atF P a i n e
      | some (.slice e), .slice (some a) n _ => atF P a i n e
      | _, _ => none
    | _ => none
  | .index t x i => do
    let x ← opd T x
    let i ← opd T i
    indexF P t x i
  | .lookup t x i ok => do
    let x ← opd T x
    let i ← opd T i
    lookupF P H t x i ok
  | .entry x => do
    let x ← opd T x
    entryF H x
  | .extract x i => do
    match ← opd T x with
    | .tuple ⟨vs⟩ => nth vs i
    | _ => none
  | .call cl => match cl.callee with
    | .builtin b => do
      let vs ← opds T cl.args.toList
      builtinV P H b cl.argTypes.toList o.type cl.args.toList vs
    | _ => none
  | _ => none

/-- The block that a list of cells makes. -/
def mkBlk (el : TypeId) (n : Option Nat) (cs : List Value) : Option Blk := Tr.ofList cs fun t => some (.cells false el n t)

/-- Operations that make one block, with the number c, and read none. -/
def opN (c : Nat) (o : Oper) : Option (Value × Blk) :=
  match o.op with
  | .alloc t => do
    let z ← zeroB P t
    let b ← forceN (lenL (cellsV z)) fun n => mkBlk t (some n) (cellsV z)
    some (.pointer (some ⟨c, 0, none⟩), b)
  | .box t x => do
    let v ← opd T x
    let b ← forceN (lenL (cellsV v)) fun n => mkBlk t (some n) (cellsV v)
    some (.pointer (some ⟨c, 0, none⟩), b)
  | .buildSlice t n ps => do
    let vs ← partsV T ps.toList
    match P.underlying t with
    | some (.slice e) => do
      let sz ← szB P e
      let z ← zeroB P e
      match Nat.ble (n * sz) 16777216 && (Nat.beq (lenL (cellsV z)) sz && Nat.blt n cap0) with
      | true => do
        let cs ← fillB (fun i => some (i * sz, sz)) vs (repL n (cellsV z))
        let b ← forceN (n * sz) fun k => mkBlk e (some k) cs
        some (.slice (some ⟨c, 0, none⟩) n n, b)
      | false => none
    | _ => none
  | .makeMap _ none => some (.map (some c), .mp [] 0)
  | .makeSlice t l m => do
    let l ← opd T l
    let m ← opd T m
    match P.underlying t, l, m with
    | some (.slice e), .int .i64 (.ofNat l), .int .i64 (.ofNat m) => do
      let sz ← szB P e
      let z ← zeroB P e
      match Nat.ble l m && (Nat.ble m 4096 && (Nat.ble ((P.info? e).map (·.bytes) |>.getD 0) 4096 && Nat.beq (lenL (cellsV z)) sz)) with
      | true => do
        let b ← forceN (m * sz) fun k => mkBlk e (some k) (repL m (cellsV z))
        some (.slice (some ⟨c, 0, none⟩) l m, b)
      | false => none
    | _, _, _ => none
  | .convert s d x => do
    let v ← opd T x
    match P.underlying s, P.underlying d, v with
    | some .string, some (.slice e), .string ⟨⟨bs⟩⟩ => match P.underlying e with
      | some (.int .u8) => do
        let sz ← szB P e
        match Nat.beq sz 1 with
        | true => forceL (bs.map fun b => Value.int .u8 b.toNat) fun cs => do
          let b ← mkBlk e none cs
          forceN (lenL bs) fun n => forceN (capU 1) fun u => some (.slice (some ⟨c, 0, none⟩) n u, b)
        | false => none
      | _ => none
    | _, _, _ => none
  | _ => none

/-- The cells of the first n elements of what is appended or copied. -/
def srcCells (size n : Nat) (x : Value) : Option (List Value) := match x with
  | .slice (some a) _ _ => match Nat.beq n 0, a.spot with
    | true, _ => some []
    | false, none => match blkOf H a.block with
      | some (_, _, _, t) => forceN (n * size) fun m => cellsAt t m a.off
      | none => none
    | false, some _ => none
  | .slice none _ _ => match Nat.beq n 0 with
    | true => some []
    | false => none
  | .string ⟨⟨bs⟩⟩ => match Nat.beq size 1 with
    | true => forceL ((takeL n bs).map fun b => Value.int .u8 b.toNat) some
    | false => none
  | _ => none
def lenV (x : Value) : Option Nat := match x with
  | .slice _ n _ => some n
  | .string ⟨⟨bs⟩⟩ => some (lenL bs)
  | _ => none
/-- What an operation hands on: a value, the heap, the next number. -/
abbrev Out := Value × Heap × Nat
/-- A new block, under the number c. -/
def newBlk (c : Nat) (b : Blk) (v : Value) : Option Out := H.setK c (some b) fun H => forceN (Nat.succ c) fun c' => some (v, H, c')

/-- Appending to new memory: the old cells, then the new ones. -/
def growF (c : Nat) (e : TypeId) (sz : Nat) (old cs : List Value) (need : Nat) : Option Out := do
  let b ← forceL (old ++ cs) fun cs => mkBlk e none cs
  forceN (capU sz) fun u => newBlk H c b (.slice (some ⟨c, 0, none⟩) need u)
/-- Appending where there is room. -/
def fitF (c : Nat) (sz : Nat) (a : Addr) (len need cap : Nat) (cs : List Value) : Option Out :=
  stCells H ⟨a.block, a.off + len * sz, none⟩ cs fun H => some (.slice (some a) need cap, H, c)
/-- What is appended is a slice's elements, or a text's bytes. -/
def srcOk (t : TypeId) : Bool := match P.underlying t with
  | some (.slice _) | some .string => true
  | _ => false
def appendF (c : Nat) (ts : List TypeId) (s x : Value) : Option Out :=
  match ts with
  | [t, tx] =>
    match P.underlying t, srcOk P tx, s, lenV x with
    | some (.slice e), true, .slice base len cap, some n => do
      let sz ← szB P e
      let z ← zeroB P e
      match Nat.beq n 0, Nat.ble ((P.info? e).map (·.bytes) |>.getD 0) 4096 && (Nat.ble (len + n) 1048576 && Nat.beq (lenL (cellsV z)) sz) with
      | true, _ => some (s, H, c)
      | false, false => none
      | false, true => forceN (len + n) fun need => do
          let cs ← srcCells H sz n x
          match cs.all oneB with
          | false => none
          | true => match base with
            | none => match Nat.beq len 0 && Nat.beq cap 0 with
              | true => growF H c e sz [] cs need
              | false => none
            | some a => match Nat.ble cap0 cap, Nat.ble need cap with
              | false, true => fitF H c sz a len need cap cs
              | false, false => do
                let old ← srcCells H sz len s
                growF H c e sz old cs need
              | true, _ => match blkOf H a.block with
                | some (false, el, none, tr) => match Nat.beq el e, Nat.beq cap (capU sz), Nat.beq cap (capE sz) && Nat.beq len 0 with
                  | true, true, _ =>
                    match tr.get (a.off + need * sz - 1) with
                    | some _ => fitF H c sz a len need cap cs
                    | none => do
                      let old ← srcCells H sz len s
                      H.setK a.block none fun H => growF H c e sz old cs need
                  | true, false, true => H.setK a.block none fun H => growF H c e sz [] cs need
                  | _, _, _ => none
                | _ => none
    | _, _, _, _ => none
  | _ => none

def copyF (c : Nat) (ts : List TypeId) (d x : Value) : Option Out :=
  match ts with
  | t :: _ => match P.underlying t, d, lenV x with
    | some (.slice e), .slice base len _, some n => do
      let sz ← szB P e
      forceN (Nat.min n len) fun m => match Nat.beq m 0, base with
      | true, _ => some (.int .i64 (.ofNat 0), H, c)
      | false, some a => do
        let cs ← srcCells H sz m x
        stCells H a cs fun H => some (.int .i64 (.ofNat m), H, c)
      | false, none => none
    | _, _, _ => none
  | _ => none

def modB (k v : Value) : List MapEntry → Nat → List MapEntry
  | [], _ => []
  | e :: es, i => match i with
    | 0 => { key := k, val := v, born := e.born } :: es
    | i + 1 => e :: modB k v es i
def delB {α : Type} : List α → Nat → List α
  | [], _ => []
  | e :: es, i => match i with
    | 0 => es
    | i + 1 => e :: delB es i
def updateF (c : Nat) (t : TypeId) (x k v : Value) : Option Out :=
  match P.underlying t, x with
  | some (.map kt _), .map (some r) => match H.get r with
    | some (.mp es clock) => do
      match ← keyIx P false kt k es with
      | some (i, _) => do
        let e ← nth es i
        match Instr.sameBits 10000 e.key k with
        | true => forceL (modB k v es i) fun es => H.setK r (some (.mp es clock)) fun H => some (undef, H, c)
        | false => none
      | none => forceL (es ++ [{ key := k, val := v, born := clock }]) fun es => forceN (Nat.succ clock) fun cl => H.setK r (some (.mp es cl)) fun H => some (undef, H, c)
    | _ => none
  | _, _ => none
def deleteF (c : Nat) (ts : List TypeId) (x k : Value) : Option Out :=
  match ts with
  | t :: _ => match P.underlying t, x with
    | some (.map kt _), .map (some r) => match H.get r with
      | some (.mp es clock) => do
        match ← keyIx P (isNilL es) kt k es with
        | some (i, _) => forceL (delB es i) fun es => H.setK r (some (.mp es clock)) fun H => some (undef, H, c)
        | none => some (undef, H, c)
      | _ => none
    | _, _ => none
  | _ => none
def clearF (c : Nat) (ts : List TypeId) (x : Value) : Option Out :=
  match ts with
  | t :: _ => match P.underlying t, x with
    | some (.slice _), .slice none _ _ => some (undef, H, c)
    | some (.slice e), .slice (some a) n _ => match Nat.beq n 0, zeroB P e with
      | true, _ => some (undef, H, c)
      | false, some z => stCells H a (repL n (cellsV z)) fun H => some (undef, H, c)
      | false, none => none
    | _, _ => none
  | _ => none

def rangeF (c : Nat) (t : TypeId) (x : Value) : Option Out :=
  match P.underlying t, x with
  | some .string, .string s => newBlk H c (.sit s 0) (.pointer (some ⟨c, 0, none⟩))
  | some (.map _ _), .map none => newBlk H c (.mit none 0 [] 0) (.pointer (some ⟨c, 0, none⟩))
  | some (.map _ _), .map (some m) => match H.get m with
    | some (.mp _ clock) => newBlk H c (.mit (some m) clock [] clock) (.pointer (some ⟨c, 0, none⟩))
    | _ => none
  | _, _ => none

def memN (n : Nat) : List Nat → Bool
  | [] => false
  | m :: l => match Nat.beq n m with
    | true => true
    | false => memN n l
/-- The entries that were not seen. -/
def leftB (seen : List Nat) : List MapEntry → List MapEntry
  | [] => []
  | e :: es => match memN e.born seen with
    | true => leftB seen es
    | false => e :: leftB seen es
def allNew (last : Nat) : List MapEntry → Bool
  | [] => true
  | e :: es => match Nat.ble last e.born with
    | true => allNew last es
    | false => false
def nextMap (c r m since : Nat) (seen : List Nat) (es : List MapEntry) (clock : Nat) : Option Out :=
  match leftB seen es with
  | [] => some (.tuple ⟨[.bool false]⟩, H, c)
  | [e] => match Nat.blt e.born since with
    | true => forceL (seen ++ [e.born]) fun seen => H.setK r (some (.mit (some m) since seen clock)) fun H => some (.tuple ⟨[.bool true, e.key, e.val]⟩, H, c)
    | false => none
  | _ => none
def nextF (c : Nat) (it : Value) (isString : Bool) : Option Out :=
  match it with
  | .pointer (some ⟨r, 0, none⟩) => match H.get r, isString with
    | some (.sit s pos), true => match Nat.blt pos s.size with
      | true =>
        match Utf8.decode s pos with
        | (ch, w) => forceN (pos + w) fun p => forceI ch fun ch => H.setK r (some (.sit s p)) fun H => some (.tuple ⟨[.bool true, .int .i64 (.ofNat pos), .int .i32 ch]⟩, H, c)
      | false => some (.tuple ⟨[.bool false]⟩, H, c)
    | some (.mit none _ _ _), false => some (.tuple ⟨[.bool false]⟩, H, c)
    | some (.mit (some m) since seen last), false => match H.get m with
      | some (.mp es clock) => match seen, es with
        | _ :: _, _ :: _ => match allNew last es with
          | true => none
          | false => nextMap H c r m since seen es clock
        | _, _ => nextMap H c r m since seen es clock
      | _ => none
    | _, _ => none
  | _ => none

/-- unsafe.String of a row of bytes: the row is known no more. -/
def unsafeStrF (c : Nat) (ts : List TypeId) (p n : Value) : Option Out :=
  match ts, n with
  | pt :: _, .int .i64 (.ofNat n) => match Nat.beq n 0 with
    | true => match p with
      | .pointer none => some (.string ⟨⟨[]⟩⟩, H, c)
      | .pointer (some _) => some (.string ⟨⟨[]⟩⟩, H, c)
      | _ => none
    | false => match p with
      | .pointer (some a) => match P.underlying pt, blkOf H a.block with
        | some (.pointer e), some (false, el, _, tr) => match Nat.beq e el, szB P el, Nat.ble n 1048576 with
          | true, some 1, true => do
            let cs ← cellsAt tr n a.off
            let bs ← bytesOf cs
            H.setK a.block none fun H => some (.string ⟨⟨bs⟩⟩, H, c)
          | _, _, _ => none
        | _, _ => none
      | _ => none
  | _, _ => none

/-- What is called. -/
abbrev Caller := Nat → List Value → Heap → Nat → Option Out

def builtinX (c : Nat) (b : Builtin) (ts : List TypeId) (vs : List Value) : Option Out :=
  match b, vs with
  | .append, [s, x] => appendF P H c ts s x
  | .copy, [d, x] => copyF P H c ts d x
  | .delete, [m, k] => deleteF P H c ts m k
  | .clear, [x] => clearF P H c ts x
  | .unsafeString, [p, n] => unsafeStrF P H c ts p n
  | _, _ => none
/-- Operations that turn memory, or call. -/
def opX (call : Caller) (c : Nat) (o : Oper) : Option Out :=
  match o.op with
  | .insert t m k x | .mapUpdate t m k x => do
    let m ← opd T m
    let k ← opd T k
    let x ← opd T x
    updateF P H c t m k x
  | .store t x y => do
    let v ← opd T x
    let z ← opd T y
    let sz ← szB P t
    match v, Nat.beq (lenL (cellsV z)) sz with
    | .pointer (some a), true => stCells H a (cellsV z) fun H => some (undef, H, c)
    | _, _ => none
  | .range t x => do
    let x ← opd T x
    rangeF P H c t x
  | .next x s => do
    let x ← opd T x
    nextF H c x s
  | .call cl => match cl.callee with
    | .builtin b => do
      let vs ← opds T cl.args.toList
      builtinX P H c b cl.argTypes.toList vs
    | .value f => do
      let f ← opd T f
      let vs ← opds T cl.args.toList
      match f with
      | .func (.func g) ⟨first⟩ ⟨cap⟩ => forceL (first ++ vs ++ cap) fun vs => call g vs H c
      | _ => none
    | .invoke _ _ => none
  | _ => none
end

/-- Kinds of operations: it looks at its operands alone; it reads; it makes a block; it turns memory. -/
inductive Cls where
  | p | l | n | x

def clsB : Builtin → Cls
  | .append | .copy | .delete | .clear | .unsafeString => .x
  | .len => .l
  | _ => .p
def clsOf (P : Program) (o : Op) : Cls := match o with
  | .load .. | .lookup .. | .entry _ => .l
  | .alloc _ | .box .. | .buildSlice .. | .makeMap .. | .makeSlice .. => .n
  | .convert s d _ => match P.underlying s, P.underlying d with
    | some .string, some (.slice _) => .n
    | some (.int _), some (.int _) => .p
    | _, _ => .l
  | .insert .. | .mapUpdate .. | .store .. | .range .. | .next .. => .x
  | .call cl => match cl.callee with
    | .builtin b => clsB b
    | _ => .x
  | _ => .p

structure Env where
  P : Program
  F : Nat → Option Func

section
variable (E : Env) (call : Caller) (nt : Nat) (all : List Oper)

def opF (T : Tr Value) (H : Heap) (c : Nat) (o : Oper) : Option Out := match clsOf E.P o.op with
  | .p | .l => do
    let v ← opV E.P T H o
    some (v, H, c)
  | .n => do
    let (v, b) ← opN E.P T c o
    newBlk H c b v
  | .x => opX E.P T H call c o

/-- Is the operation wanted? -/
def wantF (T : Tr Value) (o : Oper) : Option Bool := match o.guard with
  | none => some true
  | some (j, want) => do
    let p ← nth all j
    let d ← p.dst
    match ← T.get d with
    | .bool b => forceB (b == want) some
    | _ => some false

def putF {R : Type} (dst : Option Tmp) (v : Value) (T : Tr Value) (K : Tr Value → Option R) : Option R := match dst with
  | none => K T
  | some d => match Nat.blt d nt with
    | true => T.setK d (some v) K
    | false => none

/-- Temporaries, the heap, the next number. -/
abbrev St := Tr Value × Heap × Nat

def opsF : List Oper → Tr Value → Heap → Nat → Option St
  | [], T, H, c => some (T, H, c)
  | o :: os, T, H, c => match wantF all T o with
    | some true => match opF E call T H c o with
      | some (v, H, c1) => match Nat.ble c c1 with
        | true => putF nt o.dst v T fun T => opsF os T H c1
        | false => none
      | none => none
    | some false => putF nt o.dst undef T fun T => opsF os T H c
    | none => none

/-! Regions that draw their order. -/

/-- Of each operation: those that must be listed ahead of it, as the digits of a number. -/
def befores : List Oper → List Nat → List Nat
  | [], acc => acc.reverse
  | o :: os, acc => forceN (o.after.toList.foldl (fun s e => match Region.binds .any e with
      | true => s ||| 2 ^ e.on ||| (nth acc (lenL acc - 1 - e.on)).getD 0
      | false => s) 0) fun b => befores os (b :: acc)
/-- Each edge that binds leads back. -/
def edgesOk : Nat → List Oper → Bool
  | _, [] => true
  | i, o :: os => match o.after.toList.all fun e => !Region.binds .any e || Nat.blt e.on i with
    | true => edgesOk (Nat.succ i) os
    | false => false
def isTmp (t : Tmp) : Operand → Bool
  | .tmp u => Nat.beq u t
  | _ => false
/-- Does the operation name the temporary? -/
def touches (o : Oper) (t : Tmp) : Bool :=
  (match o.dst with
   | some d => Nat.beq d t
   | none => false) || o.op.operands.toList.any (isTmp t) ||
  (match o.guard with
   | some (j, _) => match nth all j with
     | some p => match p.dst with
       | some d => Nat.beq d t
       | none => false
     | none => false
   | none => false)
def clash (o p : Oper) : Bool :=
  (match p.dst with
   | some t => touches all o t
   | none => false) ||
  (match o.dst with
   | some t => touches all p t
   | none => false)
/-- Whatever names a temporary that o writes, or writes one that o names, is bound to o; o: number i; behind it: those from k on. -/
def tmpsOk1 (bs : List Nat) (i : Nat) (o : Oper) : Nat → List Oper → Bool
  | _, [] => true
  | k, p :: ps => match clash all o p with
    | true => match Nat.testBit ((nth bs k).getD 0) i with
      | true => tmpsOk1 bs i o (Nat.succ k) ps
      | false => false
    | false => tmpsOk1 bs i o (Nat.succ k) ps
def tmpsOk (bs : List Nat) : Nat → List Oper → Bool
  | _, [] => true
  | i, o :: os => match tmpsOk1 all bs i o (Nat.succ i) os with
    | true => tmpsOk bs (Nat.succ i) os
    | false => false
end

section
def eqO {α : Type} (f : α → α → Bool) : Option α → Option α → Bool
  | none, none => true
  | some a, some b => f a b
  | _, _ => false
def eqL {α : Type} (f : α → α → Bool) : List α → List α → Bool
  | [], [] => true
  | a :: l, b :: m => match f a b with
    | true => eqL f l m
    | false => false
  | _, _ => false
def eqA (a b : Addr) : Bool := Nat.beq a.block b.block && (Nat.beq a.off b.off && eqO Nat.beq a.spot b.spot)
def eqS (a b : ByteArray) : Bool := match a, b with
  | ⟨⟨a⟩⟩, ⟨⟨b⟩⟩ => eqL (fun x y => Nat.beq x.toNat y.toNat) a b
def eqV : Nat → Value → Value → Bool
  | 0, _, _ => false
  | f + 1, a, b => match a, b with
    | .bool a, .bool b => a == b
    | .int j a, .int k b => decide (j = k) && decide (a = b)
    | .float j a, .float k b => decide (j = k) && Nat.beq a b
    | .complex j a c, .complex k b d => decide (j = k) && (Nat.beq a b && Nat.beq c d)
    | .string a, .string b => eqS a b
    | .pointer a, .pointer b => eqO eqA a b
    | .slice a l c, .slice b m d => eqO eqA a b && (Nat.beq l m && Nat.beq c d)
    | .map a, .map b => eqO Nat.beq a b
    | .chan a, .chan b => eqO Nat.beq a b
    | .func (.func g) a c, .func (.func h) b d => Nat.beq g h && (eqL (eqV f) a.toList b.toList && eqL (eqV f) c.toList d.toList)
    | .nilFunc, .nilFunc => true
    | .iface t v, .iface u w => Nat.beq t u && eqV f v w
    | .nilIface, .nilIface => true
    | .agg a, .agg b => eqL (eqV f) a.toList b.toList
    | .tuple a, .tuple b => eqL (eqV f) a.toList b.toList
    | _, _ => false
end

/-- A block made in a region: the operation, its number, it. -/
abbrev Pend := Nat × Nat × Blk
/-- pend's blocks, those of the operations in p alone. -/
def heapP {R : Type} (p : Nat) : List Pend → Heap → (Heap → R) → R
  | [], H, K => K H
  | (i, id, b) :: l, H, K => match Nat.testBit p i with
    | true => H.setK id (some b) fun H => heapP p l H K
    | false => heapP p l H K
def heapAll {R : Type} : List Pend → Heap → (Heap → R) → R
  | [], H, K => K H
  | (_, id, b) :: l, H, K => H.setK id (some b) fun H => heapAll l H K

structure Conf where
  T : Tr Value
  B : Heap
  c : Nat
  pend : List Pend
  hist : List (Nat × Heap × List Pend)
  reads : List (Nat × Oper × Tr Value × Value)

section
variable (E : Env) (call : Caller) (nt : Nat) (all : List Oper) (bs : List Nat)

/-- What it reads was the same ahead of each heavy operation that it may come before. -/
def histOk (p : Nat) (o : Oper) (T : Tr Value) (v : Value) : List (Nat × Heap × List Pend) → Bool
  | [] => true
  | (k, B, pend) :: l => match Nat.testBit p k with
    | true => histOk p o T v l
    | false => match heapP p pend B fun G => opV E.P T G o with
      | some u => match eqV 20 u v with
        | true => histOk p o T v l
        | false => false
      | none => false
/-- What was read is the same behind a heavy operation, for those that may come behind it. -/
def readsOk (p : Nat) (B : Heap) : List (Nat × Oper × Tr Value × Value) → Bool
  | [] => true
  | (j, o, T, v) :: l => match Nat.testBit p j with
    | true => readsOk p B l
    | false => match opV E.P T B o with
      | some u => match eqV 20 u v with
        | true => readsOk p B l
        | false => false
      | none => false
def pendOk (p : Nat) : List Pend → Bool
  | [] => true
  | (i, _, _) :: l => match Nat.testBit p i with
    | true => pendOk p l
    | false => false
def histIn (p : Nat) : List (Nat × Heap × List Pend) → Bool
  | [] => true
  | (k, _, _) :: l => match Nat.testBit p k with
    | true => histIn p l
    | false => false

def stepD (i : Nat) (o : Oper) (x : Conf) : Option Conf :=
  let p := (nth bs i).getD 0
  match wantF all x.T o with
  | none => none
  | some false => putF nt o.dst undef x.T fun T => some ⟨T, x.B, x.c, x.pend, x.hist, x.reads⟩
  | some true => match clsOf E.P o.op with
    | .p => do
      let v ← opV E.P x.T .e o
      putF nt o.dst v x.T fun T => some ⟨T, x.B, x.c, x.pend, x.hist, x.reads⟩
    | .l => do
      let v ← heapP p x.pend x.B fun G => opV E.P x.T G o
      match histOk E p o x.T v x.hist with
      | true => putF nt o.dst v x.T fun T => some ⟨T, x.B, x.c, x.pend, x.hist, (i, o, x.T, v) :: x.reads⟩
      | false => none
    | .n => do
      let (v, b) ← opN E.P x.T x.c o
      putF nt o.dst v x.T fun T => forceN (Nat.succ x.c) fun c => some ⟨T, x.B, c, x.pend ++ [(i, x.c, b)], x.hist, x.reads⟩
    | .x => match pendOk p x.pend && histIn p x.hist with
      | true => heapAll x.pend x.B fun A => do
        let (v, H, c) ← opX E.P x.T A call x.c o
        match readsOk E p H x.reads && Nat.ble x.c c with
        | true => putF nt o.dst v x.T fun T => some ⟨T, H, c, [], (i, x.B, x.pend) :: x.hist, x.reads⟩
        | false => none
      | false => none
def drawF : Nat → List Oper → Conf → Option Conf
  | _, [], x => some x
  | i, o :: os, x => match stepD E call nt all bs i o x with
    | some x => drawF (Nat.succ i) os x
    | none => none
end

section
variable (E : Env) (call : Caller) (nt : Nat)
def drawnF (ops : List Oper) (T : Tr Value) (H : Heap) (c : Nat) : Option St :=
  let bs := befores ops []
  match edgesOk 0 ops && tmpsOk ops bs 0 ops with
  | true => match drawF E call nt ops bs 0 ops ⟨T, H, c, [], [], []⟩ with
    | some x => heapAll x.pend x.B fun H => some (x.T, H, x.c)
    | none => none
  | false => none

/-- sc: the scope whose labels are jumped to. -/
def codeF (call : Nat → Caller) : Nat → Option Code → Code → Tr Value → Heap → Nat → Option (Ex × St)
  | 0, _, _, _, _, _ => none
  | fuel + 1, sc, cd, T, H, c => match sc with
    | some b => match codeF call fuel none cd T H c with
      | some (.goto l, T, H, c) => match findLabel b l with
        | some rest => codeF call fuel (some b) rest T H c
        | none => none
      | r => r
    | none => match cd with
    | .skip => some (.normal, T, H, c)
    | .label _ => some (.normal, T, H, c)
    | .region _ ops false => match opsF E (call fuel) nt ops.toList ops.toList T H c with
      | some (T, H, c) => some (.normal, T, H, c)
      | none => none
    | .region _ ops true => match drawnF E (call fuel) nt ops.toList T H c with
      | some (T, H, c) => some (.normal, T, H, c)
      | none => none
    | .seq a b => match codeF call fuel none a T H c with
      | some (.normal, T, H, c) => codeF call fuel none b T H c
      | r => r
    | .cond x a b => match opd T x with
      | some (.bool true) => codeF call fuel none a T H c
      | some (.bool false) => codeF call fuel none b T H c
      | _ => none
    | .block id b => match codeF call fuel none b T H c with
      | some (.exit i, T, H, c) => match Nat.beq i id with
        | true => some (.normal, T, H, c)
        | false => some (.exit i, T, H, c)
      | r => r
    | .loop b => match codeF call fuel none b T H c with
      | some (.normal, T, H, c) => codeF call fuel none (.loop b) T H c
      | r => r
    | .exit id => some (.exit id, T, H, c)
    | .goto l => some (.goto l, T, H, c)
    | .scope b => codeF call fuel (some b) b T H c
    | .ret => some (.ret, T, H, c)
    | _ => none

def resultsF (P : Program) (H : Heap) (T : Tr Value) : List ResultVar → Option (List Value)
  | [] => some []
  | r :: rs => do
    let v ← match r with
      | .tmp t => T.get t
      | .cell a t => match T.get a with
        | some (.pointer (some a)) => ldVar P H t a
        | _ => none
    let vs ← resultsF P H T rs
    some (v :: vs)

/-- A function's body, entered. -/
def enterF (call : Nat → Caller) (fn : Func) (cd : Code) (args : List Value) (H : Heap) (c : Nat) : Option Out :=
  match Nat.ble (lenL args) fn.ntmps with
  | true => Tr.ofList args fun T => match codeF E fn.ntmps call 4000 none cd T H c with
    | some (.normal, T, H, c) | some (.ret, T, H, c) => match resultsF E.P H T fn.results.toList with
      | some [v] => some (v, H, c)
      | some vs => some (.tuple ⟨vs⟩, H, c)
      | none => none
    | _ => none
  | false => none

/-- The body without its 'defer'. -/
def noDefer : Code → Code
  | .seq a b => .seq (noDefer a) (noDefer b)
  | .region i ops d => match ops.any fun o => match o.op with | .defer _ => true | _ => false with
    | true => .skip
    | false => .region i ops d
  | c => c

/-- A call that is known. -/
abbrev Hook := Caller → List Value → Heap → Nat → Option Out
def callF (hook : Nat → Option Hook) : Nat → Caller
  | 0, _, _, _, _ => none
  | fuel + 1, f, args, H, c =>
    match hook f with
    | some h => match h (callF hook fuel) args H c with
      | some (v, H, c1) => match Nat.ble c c1 with
        | true => some (v, H, c1)
        | false => none
      | none => none
    | none => match E.F f with
      | none => none
      | some fn => match fn.body with
        | none => none
        | some cd => enterF E (fun _ => callF hook fuel) fn cd args H c
end
end
end Go.Proofs.YtgljampcnbgbhaaGreatDoor.Ev
