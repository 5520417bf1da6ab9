/- An abstract machine for the code of a translated Go function: values, memory blocks, states, and a computable verification-condition generator 'W' over the model's own 'Code'. Nothing is proved here. -/
import Derived.Below
import Derived.Calls
import Derived.Orders
set_option linter.unusedSectionVars false
set_option linter.unusedSimpArgs false
set_option linter.unusedVariables false
namespace Abs
open Go

/-- Values that never change while a function runs (they may lie in memory that nobody writes any more). -/
inductive PV
  | unit
  | bool (b : Bool)
  | int (k : IntKind) (n : Int)
  | str (s : ByteArray)
  | agg (cs : List PV)
  | tup (vs : List PV)
  | nil
  | nilp
  | slice (sz n : Nat) (f : Nat → PV)
  | fn (f : FuncId) (caps : List PV)
  | box (cs : List PV)
  | map (es : List (PV × PV))
  deriving Inhabited

/-- What a slot of the frame holds. 'ver': the version of the block that is meant (an elder one is dead). -/
inductive V
  | junk
  | pv (x : PV)
  | cond (g : Bool) (v : V)
  | ptr (id ver off : Nat)
  | eptr (id ver sz i j : Nat)
  | sl (id ver sz lo len : Nat)
  | csl (id ver sz off len : Nat)
  | mp (id ver : Nat)
  | fn (f : FuncId) (caps : List V)
  | tup (vs : List V)
  deriving Inhabited

/-- A block of the function's own memory. -/
inductive Blk
  | gone
  | cells (cs : List V)
  | arr (sz n : Nat) (f : Nat → PV)
  | map (es : List (PV × PV))
  deriving Inhabited

abbrev Hp := List (Nat × Nat × Blk)
structure S where
  t : List V
  h : Hp

def PV.cells : PV → List PV
  | .agg cs => cs
  | x => [x]
/-- Scalars; structs of scalars; results of scalars and structs: values that hold no address. -/
def PV.flat0 : PV → Bool
  | .unit | .bool _ | .int _ _ | .str _ => true
  | _ => false
def PV.flat1 : PV → Bool
  | .agg cs => cs.all PV.flat0
  | x => x.flat0
def PV.flat : PV → Bool
  | .tup vs => vs.all PV.flat1
  | x => x.flat1

def getL {α : Type} : List α → Nat → Option α
  | [], _ => none
  | x :: _, 0 => some x
  | _ :: xs, n + 1 => getL xs n
def dropL {α : Type} : List α → Nat → List α
  | xs, 0 => xs
  | [], _ + 1 => []
  | _ :: xs, n + 1 => dropL xs n
def takeL {α : Type} : List α → Nat → List α
  | _, 0 => []
  | [], _ + 1 => []
  | x :: xs, n + 1 => x :: takeL xs n

/-! ### Reading and writing, each handing its result on as a written-out term -/
def getK : List V → Nat → (V → Prop) → Prop
  | [], _, K => K .junk
  | x :: _, 0, K => K x
  | _ :: xs, n + 1, K => getK xs n K
def setK : List V → Nat → V → (List V → Prop) → Prop
  | [], _, _, K => K []
  | _ :: xs, 0, v, K => K (v :: xs)
  | x :: xs, n + 1, v, K => setK xs n v fun ys => K (x :: ys)
def hgetK : Hp → Nat → (Nat → Blk → Prop) → Prop
  | [], _, K => K 0 .gone
  | (i, v, b) :: r, id, K => cond (Nat.beq i id) (K v b) (hgetK r id K)
def hsetK : Hp → Nat → Nat → Blk → (Hp → Prop) → Prop
  | [], id, v, b, K => K [(id, v, b)]
  | (i, v0, b0) :: r, id, v, b, K => cond (Nat.beq i id) (K ((i, v, b) :: r)) (hsetK r id v b fun r' => K ((i, v0, b0) :: r'))
def takeK {α : Type} : List α → Nat → (List α → Prop) → Prop
  | _, 0, K => K []
  | [], _ + 1, _ => False
  | x :: xs, n + 1, K => takeK xs n fun ys => K (x :: ys)
def setCK {α : Type} : List α → Nat → α → (List α → Prop) → Prop
  | [], _, _, _ => False
  | _ :: xs, 0, v, K => K (v :: xs)
  | x :: xs, n + 1, v, K => setCK xs n v fun ys => K (x :: ys)
/-- Cells written from a place on. -/
def putCK : List V → Nat → List V → (List V → Prop) → Prop
  | cs, _, [], K => K cs
  | cs, off, v :: vs, K => setCK cs off v fun cs' => putCK cs' (off + 1) vs K

/-- A constant of the text. -/
def scalarPV : Value → Option PV
  | .bool b => some (.bool b)
  | .int k n => some (.int k n)
  | .string s => some (.str s)
  | .slice none 0 0 => some .nil
  | .pointer none => some .nilp
  | .nilFunc => some .nilp
  | .map none => some (.map [])
  | _ => none
def scalarsPV : List Value → Option (List PV)
  | [] => some []
  | v :: vs => match scalarPV v, scalarsPV vs with
    | some x, some xs => some (x :: xs)
    | _, _ => none
def constPV : Value → Option PV
  | .agg cs => match scalarsPV cs.toList with
    | some xs => some (.agg xs)
    | none => none
  | v => scalarPV v

def kNum : IntKind → Nat
  | .i8 => 0 | .i16 => 1 | .i32 => 2 | .i64 => 3 | .u8 => 4 | .u16 => 5 | .u32 => 6 | .u64 => 7
def kEq (a b : IntKind) : Bool := Nat.beq (kNum a) (kNum b)

structure Acc where
  rd : Operand → (V → Prop) → Prop
  hd : Nat → (Nat → Blk → Prop) → Prop
def rdS (t : List V) : Operand → (V → Prop) → Prop
  | .tmp i, K => getK t i K
  | .const v, K => match constPV v with
    | some x => K (.pv x)
    | none => False
  | .func f, K => K (.pv (.fn f []))
  | .global _, _ => False
def S.acc (s : S) : Acc := match s with | ⟨t, h⟩ => ⟨rdS t, hgetK h⟩

/-! ### The tables of types -/
def tyi (P : Program) (t : Nat) : Option TypeInfo := getL P.types.toList t
def und (P : Program) (t : Nat) : Option TypeDesc :=
  match tyi P t with
  | some i => match i.desc with
    | .named _ u => match tyi P u with
      | some j => some j.desc
      | none => none
    | d => some d
  | none => none
def szOf (P : Program) (t : Nat) : Option Nat := match tyi P t with | some i => some i.size | none => none
def aggB : TypeDesc → Bool
  | .struct _ => true
  | .array _ _ => true
  | _ => false

/-! ### Single operations -/
/-- int's arithmetic: with 'm = false' the result is owed to be in range, with 'm = true' it wraps. -/
def arith (m : Bool) (k : IntKind) (n : Int) (acc : List Prop) (K : V → List Prop → Prop) : Prop :=
  cond m (K (.pv (.int k (k.wrap n))) acc) (K (.pv (.int k n)) ((k.wrap n = n) :: acc))
def bitop (op : BinOp) (k : IntKind) (x y : Int) : Int :=
  let a := BitVec.ofInt k.bits x
  let b := BitVec.ofInt k.bits y
  match op with
  | .and => k.wrap (a &&& b).toNat
  | .or => k.wrap (a ||| b).toNat
  | .xor => k.wrap (a ^^^ b).toNat
  | _ => k.wrap (a &&& ~~~b).toNat
def shlop (k : IntKind) (x y : Int) : Int := k.wrap (x * 2 ^ (min y.toNat k.bits))
def shrop (k : IntKind) (x y : Int) : Int := x.fdiv (2 ^ (min y.toNat k.bits))
def intOp (m : Bool) (op : BinOp) (k : IntKind) (a b : Int) (acc : List Prop) (K : V → List Prop → Prop) : Prop :=
  match op with
  | .add => arith m k (a + b) acc K
  | .sub => arith m k (a - b) acc K
  | .mul => arith m k (a * b) acc K
  | .quo => arith m k (a.tdiv b) ((b ≠ 0) :: acc) K
  | .rem => K (.pv (.int k (a.tmod b))) ((b ≠ 0) :: acc)
  | .lss => K (.pv (.bool (decide (a < b)))) acc
  | .leq => K (.pv (.bool (decide (a ≤ b)))) acc
  | .gtr => K (.pv (.bool (decide (a > b)))) acc
  | .geq => K (.pv (.bool (decide (a ≥ b)))) acc
  | .eql => K (.pv (.bool (decide (a = b)))) acc
  | .neq => K (.pv (.bool (!decide (a = b)))) acc
  | .and => K (.pv (.int k (bitop .and k a b))) acc
  | .or => K (.pv (.int k (bitop .or k a b))) acc
  | .xor => K (.pv (.int k (bitop .xor k a b))) acc
  | .andNot => K (.pv (.int k (bitop .andNot k a b))) acc
  | .shl => False
  | .shr => False

/-- Values of one cell. -/
def PV.oneB : PV → Bool
  | .agg _ | .tup _ | .unit => false
  | _ => true
def mapPvK : List PV → (List V → Prop) → Prop
  | [], K => K []
  | x :: xs, K => mapPvK xs fun ys => K (.pv x :: ys)
/-- The cells of a value, as they lie in a block. -/
def cellsOfV (v : V) (K : List V → Prop) : Prop :=
  match v with
  | .pv (.agg cs) => cond (cs.all PV.oneB) (mapPvK cs K) False
  | .pv x => cond x.oneB (K [.pv x]) False
  | .cond _ _ => False
  | .junk => False
  | .tup _ => False
  | v => K [v]
/-- Cells that hold plain values alone. -/
def pvsK : List V → (List PV → Prop) → Prop
  | [], K => K []
  | .pv x :: r, K => pvsK r fun xs => K (x :: xs)
  | _ :: _, _ => False
/-- What a load of 'n' cells gives. -/
def loadK (agg : Bool) (n : Nat) (cs : List V) (K : V → Prop) : Prop :=
  match agg, cs with
  | true, cs => takeK cs n fun ds => pvsK ds fun xs => K (.pv (.agg xs))
  | false, c :: _ => K c
  | false, [] => False
def loadPK (agg : Bool) (n : Nat) (cs : List PV) (K : V → Prop) : Prop :=
  match agg, cs with
  | true, cs => takeK cs n fun xs => K (.pv (.agg xs))
  | false, c :: _ => K (.pv c)
  | false, [] => False

/-- A value as a plain one: memory of the function's own is read (it is lent, not given). The Bool: something was lent. -/
def plainCells : List V → Option (List PV)
  | [] => some []
  | .pv x :: r => match plainCells r with
    | some xs => some (x :: xs)
    | none => none
  | _ :: _ => none
def lendK (hd : Nat → (Nat → Blk → Prop) → Prop) : V → (PV → Bool → Prop) → Prop
  | .pv x, K => K x false
  | .sl id ver sz lo len, K => hd id fun v b => match b with
    | .arr sz' n f => cond (Nat.beq v ver && Nat.beq sz sz') (lo + len ≤ n ∧ K (.slice sz len fun i => f (lo + i)) true) False
    | _ => False
  | .csl id ver sz off len, K => hd id fun v b => match b with
    | .cells cs => cond (Nat.beq v ver && Nat.beq sz 1) (takeK (dropL cs off) len fun ds => pvsK ds fun xs => cond (Nat.ble len 1000 && xs.all PV.oneB) (K (.slice 1 len fun i => xs.getD i .unit) true) False) False
    | _ => False
  | .ptr id ver off, K => hd id fun v b => match b with
    | .cells cs => cond (Nat.beq v ver) (pvsK (dropL cs off) fun xs => K (.box xs) true) False
    | _ => False
  | .mp id ver, K => hd id fun v b => match b with
    | .map es => cond (Nat.beq v ver) (K (.map es) true) False
    | _ => False
  | _, _ => False
def lendsK (hd : Nat → (Nat → Blk → Prop) → Prop) : List V → (List PV → Bool → Prop) → Prop
  | [], K => K [] false
  | .fn f caps :: r, K => lendsCK hd caps fun xs b => lendsK hd r fun ys b' => K (.fn f xs :: ys) (b || b')
  | v :: r, K => lendK hd v fun x b => lendsK hd r fun ys b' => K (x :: ys) (b || b')
where
  lendsCK (hd : Nat → (Nat → Blk → Prop) → Prop) : List V → (List PV → Bool → Prop) → Prop
  | [], K => K [] false
  | v :: r, K => lendK hd v fun x b => lendsCK hd r fun ys b' => K (x :: ys) (b || b')

def keyEq0 : PV → PV → Bool
  | .int _ n, .int _ m => decide (n = m)
  | .bool n, .bool m => n == m
  | _, _ => false
def keyEqs : List PV → List PV → Bool
  | x :: xs, y :: ys => keyEq0 x y && keyEqs xs ys
  | [], [] => true
  | _, _ => false
def keyEq (a b : PV) : Bool :=
  match a, b with
  | .agg xs, .agg ys => keyEqs xs ys
  | x, y => keyEq0 x y
def mlook : List (PV × PV) → PV → Option PV
  | [], _ => none
  | (k, v) :: r, x => if keyEq x k then some v else mlook r x
def mset : List (PV × PV) → PV → PV → List (PV × PV)
  | [], x, y => [(x, y)]
  | (k, v) :: r, x, y => if keyEq x k then (x, y) :: r else (k, v) :: mset r x y
/-- Keys that the machine's maps know: integers, bools, structs of such. -/
def PV.key0 : PV → Bool
  | .bool _ | .int _ _ => true
  | _ => false
def PV.key : PV → Bool
  | .agg cs => cs.all PV.key0
  | x => x.key0

/-- The parts of a literal written into its cells. -/
def fillK (place : Nat → Option (Nat × Nat)) : List V → List (Nat × V) → (List V → Prop) → Prop
  | cs, [], K => K cs
  | cs, (i, v) :: r, K => match place i with
    | some (off, n) => cellsOfV v fun vs => cond (Nat.beq vs.length n && Nat.blt 0 n) (putCK cs off vs fun cs' => fillK place cs' r K) False
    | none => False
def zeroCs (P : Program) (t : Nat) : Option (List PV) :=
  match tyi P t with
  | some i => match i.zero with
    | some z => match constPV z with
      | some (.agg xs) => cond (xs.all PV.oneB) (some xs) none
      | some x => cond x.oneB (some [x]) none
      | none => none
    | none => none
  | none => none
/-- One element over and over needs no list. -/
def ofElems : List PV → Nat → PV
  | [x], _ => x
  | xs, i => xs.getD i .unit
def beqBool (a b : Bool) : Bool := cond a b (!b)
/-- Two values of a struct's or an array's type, cell by cell; 'fl': which cells are bools (the others are integers). -/
def aggEqK : List Bool → List PV → List PV → (Bool → Prop) → Prop
  | [], [], [], K => K true
  | false :: fl, .int k a :: r, .int k' b :: s, K => aggEqK fl r s fun e => cond (kEq k k') (K (cond (decide (a = b)) e false)) False
  | true :: fl, .bool a :: r, .bool b :: s, K => aggEqK fl r s fun e => K (cond (beqBool a b) e false)
  | _, _, _, _ => False
def appFlags : Option (List Bool) → Option (List Bool) → Option (List Bool)
  | some a, some b => some (a ++ b)
  | _, _ => none
def repFlags (fl : List Bool) : Nat → List Bool
  | 0 => []
  | n + 1 => fl ++ repFlags fl n
mutual
/-- The cells of a type whose leaves are integers and bools: which are bools. -/
def eqFlags (P : Program) : Nat → Nat → Option (List Bool)
  | 0, _ => none
  | n + 1, t => match und P t with
    | some (.int _) => some [false]
    | some .bool => some [true]
    | some (.array len e) => match eqFlags P n e, szOf P e with
      | some fl, some sz => cond (Nat.beq fl.length sz) (some (repFlags fl len)) none
      | _, _ => none
    | some (.struct fs) => eqFields P n fs.toList []
    | _ => none
def eqFields (P : Program) : Nat → List Field → List Bool → Option (List Bool)
  | _, [], acc => some acc
  | 0, _ :: _, _ => none
  | n + 1, f :: fs, acc => match eqFlags P n f.type, szOf P f.type with
    | some fl, some sz => cond (Nat.beq f.offset acc.length && Nat.beq fl.length sz) (eqFields P n fs (acc ++ fl)) none
    | _, _ => none
end
/-- What else the model asks of such a type: closed facts. -/
def eqHeld (P : Program) : Nat → Nat → Bool
  | 0, _ => false
  | n + 1, t => match und P t with
    | some (.int _) => true
    | some .bool => true
    | some (.array _ e) => eqHeld P n e
    | some (.struct fs) => !P.stoodInHeld t && fs.toList.all fun f => f.name != "_" && eqHeld P n f.type
    | _ => false
end Abs
