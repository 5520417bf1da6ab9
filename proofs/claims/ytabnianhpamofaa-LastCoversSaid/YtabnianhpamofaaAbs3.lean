/- The generator of conditions: single operations, regions, code. Nothing is proved here. -/
import Derived.Test.YtabnianhpamofaaAbs2
set_option linter.unusedSectionVars false
set_option linter.unusedSimpArgs false
set_option linter.unusedVariables false
namespace Abs
open Go
variable [DMode]

/-- What is known under conditions: they are owed, as 'T' words it. What is owed is gathered in 'acc'. -/
def uncs (T : Prop → Prop) : V → List Prop → (V → List Prop → Prop) → Prop
  | .cond g v, acc, K => uncs T v (T (g = true) :: acc) K
  | v, acc, K => K v acc
def rduTK (A : Acc) (T : Prop → Prop) (x : Operand) (acc : List Prop) (K : V → List Prop → Prop) : Prop := A.rd x fun v => uncs T v acc K
def rduK (A : Acc) (x : Operand) (acc : List Prop) (K : V → List Prop → Prop) : Prop := A.rd x fun v => uncs (fun p => p) v acc K
def rdusK (A : Acc) : List Operand → List Prop → (List V → List Prop → Prop) → Prop
  | [], acc, K => K [] acc
  | o :: os, acc, K => rduK A o acc fun v acc => rdusK A os acc fun vs acc => K (v :: vs) acc
def rduPartsK (A : Acc) : List (Nat × Operand) → List Prop → (List (Nat × V) → List Prop → Prop) → Prop
  | [], acc, K => K [] acc
  | (i, o) :: os, acc, K => rduK A o acc fun v acc => rduPartsK A os acc fun vs acc => K ((i, v) :: vs) acc
def addK : List Prop → List Prop → (List Prop → Prop) → Prop
  | [], acc, K => K acc
  | p :: ps, acc, K => addK ps (p :: acc) K

/-- The elements of a slice, as a function; nil has none. -/
def elemsK (hd : Nat → (Nat → Blk → Prop) → Prop) (sz : Nat) (v : V) (acc : List Prop) (K : Nat → (Nat → PV) → List Prop → Prop) : Prop :=
  match v with
  | .pv .nil => K 0 (fun _ => .unit) acc
  | .pv (.slice sz' n f) => cond (Nat.beq sz sz') (K n f acc) False
  | .sl id ver sz' lo len => hd id fun w b => match b with
    | .arr sz'' n f => cond (Nat.beq w ver && (Nat.beq sz sz' && Nat.beq sz sz'')) (K len (fun i => f (lo + i)) ((lo + len ≤ n) :: acc)) False
    | _ => False
  | _ => False
/-- The most bytes that an append or a make may ask for. -/
def most : Nat := 70368744177664
def bounded (n B : Nat) : Prop := n * B ≤ most

def appendK (hd : Nat → (Nat → Blk → Prop) → Prop) (d : Nat) (sz B : Nat) (s x : V) (acc : List Prop) (K : V → Option (Nat × Nat × Blk) → List Prop → Prop) : Prop :=
  elemsK hd sz x acc fun m g acc => match s with
  | .pv .nil => hd d fun w _ => K (.sl d (w + 1) sz 0 m) (some (d, w + 1, .arr sz m g)) (bounded m B :: acc)
  | .sl id ver sz' lo len => hd id fun w b => match b with
    | .arr sz'' n f => cond (Nat.beq w ver && (Nat.beq sz sz' && Nat.beq sz sz''))
        (K (.sl id (w + 1) sz lo (len + m)) (some (id, w + 1, .arr sz (n + m) fun i => if i < n then f i else g (i - n))) ((lo = 0) :: (len = n) :: bounded (n + m) B :: acc)) False
    | _ => False
  | _ => False

/-- The elements of a slice's literal: all of them must be given, in order. -/
def litElems (sz : Nat) : Nat → List (Nat × V) → Option (List PV)
  | _, [] => some []
  | i, (j, .pv x) :: r => match Nat.beq i j && (Nat.beq x.cells.length sz && x.cells.all PV.oneB), litElems sz (i + 1) r with
    | true, some xs => some (x :: xs)
    | _, _ => none
  | _, _ => none

def structOf (P : Program) (t : Nat) : Option (List Field) :=
  match und P t with
  | some (.struct fs) => some fs.toList
  | _ => none
def fieldK (P : Program) (t i : Nat) (K : Nat → Nat → Bool → Prop) : Prop :=
  match structOf P t with
  | some fs => match getL fs i with
    | some f => match szOf P f.type, und P f.type with
      | some n, some u => K f.offset n (aggB u)
      | _, _ => False
    | none => False
  | none => False
/-- Where the parts of a struct's or an array's literal lie. -/
def placeOf (P : Program) (t : Nat) : Nat → Option (Nat × Nat) := fun i =>
  match und P t with
  | some (.struct fs) => match getL fs.toList i with
    | some f => match szOf P f.type with
      | some n => some (f.offset, n)
      | none => none
    | none => none
  | some (.array _ e) => match szOf P e with
    | some n => some (i * n, n)
    | none => none
  | _ => none

/-- The sizes of all parts are known. -/
def allSz (P : Program) : TypeDesc → Bool
  | .struct fs => fs.toList.all fun f => (szOf P f.type).isSome
  | .array _ e => (szOf P e).isSome
  | _ => false
def loNat (x : Option V) (acc : List Prop) (K : Nat → List Prop → Prop) : Prop :=
  match x with
  | none => K 0 acc
  | some (.pv (.int _ i)) => K i.toNat ((0 ≤ i) :: acc)
  | _ => False
def hiNat (n : Nat) (x : Option V) (acc : List Prop) (K : Nat → List Prop → Prop) : Prop :=
  match x with
  | none => K n acc
  | some (.pv (.int _ i)) => K i.toNat ((0 ≤ i) :: acc)
  | _ => False
def rdoK (A : Acc) (x : Option Operand) (acc : List Prop) (K : Option V → List Prop → Prop) : Prop :=
  match x with
  | none => K none acc
  | some o => rduK A o acc fun v acc => K (some v) acc

def maxL : Int → List V → (Int → Prop) → Prop
  | a, [], K => K a
  | a, .pv (.int _ b) :: r, K => maxL (max a b) r K
  | _, _, _ => False
def minL : Int → List V → (Int → Prop) → Prop
  | a, [], K => K a
  | a, .pv (.int _ b) :: r, K => minL (min a b) r K
  | _, _, _ => False

/-- The version that is meant is the block's own. -/
def liveK (hd : Nat → (Nat → Blk → Prop) → Prop) (id ver : Nat) (K : Prop) : Prop := hd id fun w _ => cond (Nat.beq w ver) K False
def zeroOf (agg : Bool) (xs : List PV) : PV :=
  match agg, xs with
  | true, xs => .agg xs
  | false, x :: _ => x
  | false, [] => .unit
def mapOfK (hd : Nat → (Nat → Blk → Prop) → Prop) (v : V) (K : List (PV × PV) → Prop) : Prop :=
  match v with
  | .pv (.map es) => K es
  | .mp id ver => hd id fun w b => match b with
    | .map es => cond (Nat.beq w ver) (K es) False
    | _ => False
  | _ => False

def like0 : PV → PV → Bool
  | .int k _, .int k' _ => kEq k k'
  | .bool _, .bool _ => true
  | _, _ => false
def like0s : List PV → List PV → Bool
  | [], [] => true
  | x :: xs, y :: ys => like0 x y && like0s xs ys
  | _, _ => false
/-- Two keys of one shape. -/
def likeKey (a b : PV) : Bool :=
  match a, b with
  | .agg xs, .agg ys => like0s xs ys
  | x, y => like0 x y
def flagsFit : List Bool → List PV → Bool
  | [], [] => true
  | false :: fl, .int _ _ :: r => flagsFit fl r
  | true :: fl, .bool _ :: r => flagsFit fl r
  | _, _ => false
/-- A key of its type: an integer, a bool, a struct or an array of such. -/
def keyK (P : Program) (kt : Nat) (key : PV) (acc : List Prop) (K : List Prop → Prop) : Prop :=
  match und P kt with
  | some (.int _) => match key with
    | .int _ _ => K acc
    | _ => False
  | some .bool => match key with
    | .bool _ => K acc
    | _ => False
  | some u => match key with
    | .agg xs => match eqFlags P 12 kt with
      | some fl => cond (aggB u && flagsFit fl xs) (K ((eqHeld P 12 kt = true) :: acc)) False
      | none => False
    | _ => False
  | none => False
def zeroPV (P : Program) (t : Nat) : Option PV :=
  match tyi P t with
  | some i => match i.zero with
    | some z => constPV z
    | none => none
  | none => none
def likeAll (key : PV) (es : List (PV × PV)) : Prop := es.all (fun p => likeKey key p.1) = true

/-- One operation that is no call of a Go function: its value, the one block that it writes, what it owes. 'd': the slot that it writes. -/
def opK (P : Program) (m : Bool) (A : Acc) (d : Option Nat) (op : Op) (K : V → Option (Nat × Nat × Blk) → List Prop → Prop) : Prop :=
  match op with
  | .move x => rduK A x [] fun v acc => K v none acc
  | .assign x => rduK A x [] fun v acc => K v none acc
  | .pick c a b => rduK A c [] fun vc acc => match vc with
    | .pv (.bool g) => rduTK A (fun p => g = true → p) a acc fun va acc => match va with
      | .pv (.bool x) => rduTK A (fun p => g = false → p) b acc fun vb acc => match vb with
        | .pv (.bool y) => K (.pv (.bool (cond g x y))) none acc
        | _ => False
      | _ => False
    | _ => False
  | .alloc t => match d, zeroCs P t with
    | some d, some cs => mapPvK cs fun cs => A.hd d fun w _ => K (.ptr d (w + 1) 0) (some (d, w + 1, .cells cs)) []
    | _, _ => False
  | .box _ x => match d with
    | some d => rduK A x [] fun v acc => cellsOfV v fun cs => A.hd d fun w _ => K (.ptr d (w + 1) 0) (some (d, w + 1, .cells cs)) acc
    | none => False
  | .build t parts => match zeroCs P t, und P t with
    | some cs, some u => cond (aggB u && allSz P u) (mapPvK cs fun cs => rduPartsK A parts.toList [] fun vs acc => fillK (placeOf P t) cs vs fun cs' => pvsK cs' fun xs => K (.pv (.agg xs)) none acc) False
    | _, _ => False
  | .buildSlice t len parts => match d, und P t with
    | some d, some (.slice e) => match szOf P e with
      | some sz => rduPartsK A parts.toList [] fun vs acc => match litElems sz 0 vs with
        | some xs => cond (Nat.beq xs.length len && (Nat.ble (len * sz) 1000 && (Nat.blt 0 sz && (zeroCs P e).isSome))) (A.hd d fun w _ => K (.sl d (w + 1) sz 0 len) (some (d, w + 1, .arr sz len (ofElems xs))) acc) False
        | none => False
      | none => False
    | _, _ => False
  | .load t x => match szOf P t, und P t with
    | some n, some u => rduK A x [] fun v acc => match v with
      | .ptr id ver off => A.hd id fun w b => match b with
        | .cells cs => cond (Nat.beq w ver) (loadK (aggB u) n (dropL cs off) fun r => K r none acc) False
        | _ => False
      | .eptr id ver sz i j => A.hd id fun w b => match b with
        | .arr sz' len f => cond (Nat.beq w ver && Nat.beq sz sz') (loadPK (aggB u) n (dropL (f i).cells j) fun r => K r none ((i < len) :: acc)) False
        | _ => False
      | .pv (.box cs) => loadPK (aggB u) n cs fun r => K r none acc
      | _ => False
    | _, _ => False
  | .store t p x => match szOf P t with
    | some n => rduK A p [] fun vp acc => rduK A x acc fun vx acc => match vp with
      | .ptr id ver off => A.hd id fun w b => match b with
        | .cells cs => cond (Nat.beq w ver) (cellsOfV vx fun vs => cond (Nat.beq vs.length n) (putCK cs off vs fun cs' => K .junk (some (id, w, .cells cs')) acc) False) False
        | _ => False
      | .eptr id ver sz i j => A.hd id fun w b => match b with
        | .arr sz' len f => match vx with
          | .pv y => cond (Nat.beq w ver && (Nat.beq sz sz' && (Nat.beq y.cells.length n && (Nat.beq n sz && (Nat.beq j 0 && y.cells.all PV.oneB)))))
              (K .junk (some (id, w, .arr sz len fun k => cond (Nat.beq k i) y (f k))) ((i < len) :: acc))
              False
          | _ => False
        | _ => False
      | _ => False
    | none => False
  | .nilCheck x => rduK A x [] fun v acc => match v with
    | .ptr id ver _ => liveK A.hd id ver (K v none acc)
    | .eptr id ver _ _ _ => liveK A.hd id ver (K v none acc)
    | .pv (.box _) => K v none acc
    | _ => False
  | .binOp op t x y _ => rduK A x [] fun vx acc => rduK A y acc fun vy acc => match vx, vy with
    | .pv (.int k a), .pv (.int k' b) => match op with
      | .shl => K (.pv (.int k (shlop k a b))) none ((0 ≤ b) :: acc)
      | .shr => K (.pv (.int k (shrop k a b))) none ((0 ≤ b) :: acc)
      | op => cond (kEq k k') (intOp m op k a b acc fun v acc => K v none acc) False
    | .pv (.bool a), .pv (.bool b) => match op, und P t with
      | .eql, some .bool => K (.pv (.bool (beqBool a b))) none acc
      | .neq, some .bool => K (.pv (.bool (!beqBool a b))) none acc
      | _, _ => False
    | .pv (.agg xs), .pv (.agg ys) => match op, eqFlags P 12 t, und P t with
      | .eql, some fl, some u => cond (aggB u) (aggEqK fl xs ys fun e => K (.pv (.bool e)) none ((eqHeld P 12 t = true ∧ P.eqGuardType P.depth t = false) :: acc)) False
      | .neq, some fl, some u => cond (aggB u) (aggEqK fl xs ys fun e => K (.pv (.bool (!e))) none ((eqHeld P 12 t = true ∧ P.eqGuardType P.depth t = false) :: acc)) False
      | _, _, _ => False
    | _, _ => False
  | .unOp op _ x => rduK A x [] fun v acc => match op, v with
    | .not, .pv (.bool b) => K (.pv (.bool (!b))) none acc
    | .neg, .pv (.int k n) => arith m k (0 - n) acc fun v acc => K v none acc
    | _, _ => False
  | .convert s t x => match und P s, und P t with
    | some (.int _), some (.int k) => rduK A x [] fun v acc => match v with
      | .pv (.int _ n) => arith m k n acc fun v acc => K v none acc
      | _ => False
    | _, _ => False
  | .makeFunc (.func f) first caps => match first.toList with
    | [] => rdusK A caps.toList [] fun vs acc => K (.fn f vs) none acc
    | _ => False
  | .makeMap _ none => match d with
    | some d => A.hd d fun w _ => K (.mp d (w + 1)) (some (d, w + 1, .map [])) []
    | none => False
  | .makeSlice t l c => match d, und P t with
    | some d, some (.slice e) => match zeroCs P e, szOf P e, tyi P e, und P e with
      | some cs, some sz, some ti, some u => rduK A l [] fun vl acc => rduK A c acc fun vc acc => match vl, vc with
        | .pv (.int _ a), .pv (.int _ b) => A.hd d fun w _ =>
            cond (Nat.beq cs.length sz && (Nat.blt 0 sz && Nat.beq (zeroOf (aggB u) cs).cells.length sz))
              (K (.sl d (w + 1) sz 0 a.toNat) (some (d, w + 1, .arr sz a.toNat fun _ => zeroOf (aggB u) cs)) ((a ≤ b) :: (0 ≤ a) :: bounded b.toNat (Nat.max ti.bytes sz) :: acc)) False
        | _, _ => False
      | _, _, _, _ => False
    | _, _ => False
  | .slice t x lo hi none => rduK A x [] fun v acc => rdoK A lo acc fun vl acc => rdoK A hi acc fun vh acc => match und P t with
    | some (.slice e) => match szOf P e with
      | some se => match v with
        | .pv .nil => loNat vl acc fun l acc => hiNat 0 vh acc fun h acc => K (.pv .nil) none ((l = 0) :: (h = 0) :: acc)
        | .pv (.slice sz n f) => cond (Nat.beq sz se) (loNat vl acc fun l acc => hiNat n vh acc fun h acc => K (.pv (.slice sz (h - l) fun i => f (l + i))) none ((l ≤ h) :: (h ≤ n) :: acc)) False
        | .sl id ver sz o n => cond (Nat.beq sz se) (liveK A.hd id ver (loNat vl acc fun l acc => hiNat n vh acc fun h acc => K (.sl id ver sz (o + l) (h - l)) none ((l ≤ h) :: (h ≤ n) :: acc))) False
        | _ => False
      | none => False
    | some (.array n e) => match szOf P e, lo, hi, v with
      | some 1, none, none, .ptr id ver off => liveK A.hd id ver (K (.csl id ver 1 off n) none acc)
      | some 1, none, none, .pv (.box cs) => takeK cs n fun xs => cond (Nat.ble n 1000 && xs.all PV.oneB) (K (.pv (.slice 1 n fun i => xs.getD i .unit)) none acc) False
      | _, _, _, _ => False
    | _ => False
  | .fieldAddr t x i => fieldK P t i fun off n _ => cond (Nat.blt 0 n) (rduK A x [] fun v acc => match v with
    | .ptr id ver o => liveK A.hd id ver (K (.ptr id ver (o + off)) none acc)
    | .eptr id ver sz k j => liveK A.hd id ver (K (.eptr id ver sz k (j + off)) none acc)
    | .pv (.box cs) => K (.pv (.box (dropL cs off))) none acc
    | _ => False) False
  | .field t x i => fieldK P t i fun off n agg => rduK A x [] fun v acc => match v with
    | .pv (.agg cs) => loadPK agg n (dropL cs off) fun r => K r none acc
    | _ => False
  | .indexAddr t x i => match und P t with
    | some (.array n e) => match szOf P e with
      | some sz => rduK A x [] fun v acc => rduK A i acc fun vi acc => match vi with
        | .pv (.int _ k) => match v with
          | .ptr id ver off => liveK A.hd id ver (K (.ptr id ver (off + k.toNat * sz)) none ((0 ≤ k) :: (k < n) :: acc))
          | .eptr id ver sz' e j => liveK A.hd id ver (K (.eptr id ver sz' e (j + k.toNat * sz)) none ((0 ≤ k) :: (k < n) :: acc))
          | .pv (.box cs) => K (.pv (.box (dropL cs (k.toNat * sz)))) none ((0 ≤ k) :: (k < n) :: acc)
          | _ => False
        | _ => False
      | none => False
    | some (.slice e) => match szOf P e with
      | some sz => rduK A x [] fun v acc => rduK A i acc fun vi acc => match vi with
        | .pv (.int _ k) => match v with
          | .pv (.slice sz' n f) => cond (Nat.beq sz sz') (K (.pv (.box (f k.toNat).cells)) none ((0 ≤ k) :: (k < n) :: acc)) False
          | .pv .nil => K .junk none [False]
          | .sl id ver sz' lo len => cond (Nat.beq sz sz') (liveK A.hd id ver (K (.eptr id ver sz (lo + k.toNat) 0) none ((0 ≤ k) :: (k < len) :: acc))) False
          | .csl id ver sz' off len => cond (Nat.beq sz sz') (liveK A.hd id ver (K (.ptr id ver (off + k.toNat * sz)) none ((0 ≤ k) :: (k < len) :: acc))) False
          | _ => False
        | _ => False
      | none => False
    | _ => False
  | .index t x i => match und P t with
    | some (.array n e) => match szOf P e, und P e with
      | some sz, some u => rduK A x [] fun v acc => rduK A i acc fun vi acc => match v, vi with
        | .pv (.agg cs), .pv (.int _ k) => loadPK (aggB u) sz (dropL cs (k.toNat * sz)) fun r => K r none ((0 ≤ k) :: (k < n) :: acc)
        | _, _ => False
      | _, _ => False
    | _ => False
  | .lookup t x i ok => match und P t with
    | some (.map kt e) => match zeroPV P e with
      | some zv => rduK A x [] fun v acc => rduK A i acc fun vi acc => match vi with
        | .pv key => keyK P kt key acc fun acc => mapOfK A.hd v fun es => match ok with
            | false => ∃ r, (mlook es key).getD zv = r ∧ K (.pv r) none (likeAll key es :: acc)
            | true => ∃ r b, (match mlook es key with | some y => y = r ∧ b = true | none => zv = r ∧ b = false) ∧ K (.pv (.tup [r, .bool b])) none (likeAll key es :: acc)
        | _ => False
      | none => False
    | _ => False
  | .mapUpdate t x i y => match und P t with
    | some (.map kt _) => rduK A x [] fun v acc => rduK A i acc fun vi acc => rduK A y acc fun vy acc => match v, vi, vy with
      | .mp id ver, .pv key, .pv y => keyK P kt key acc fun acc => A.hd id fun w b => match b with
        | .map es => cond (Nat.beq w ver) (K .junk (some (id, w, .map (mset es key y))) (likeAll key es :: acc)) False
        | _ => False
      | _, _, _ => False
    | _ => False
  | .extract x i => rduK A x [] fun v acc => match v with
    | .pv (.tup vs) => match getL vs i with
      | some y => K (.pv y) none acc
      | none => False
    | .tup vs => match getL vs i with
      | some y => K y none acc
      | none => False
    | _ => False
  | .call { callee := .builtin .len, args, argTypes } => match args.toList, argTypes.toList with
    | [x], t :: _ => match und P t with
      | some (.slice _) => rduK A x [] fun v acc => match v with
        | .pv .nil => K (.pv (.int .i64 0)) none acc
        | .pv (.slice _ n _) => K (.pv (.int .i64 n)) none acc
        | .sl id ver _ _ len => liveK A.hd id ver (K (.pv (.int .i64 len)) none acc)
        | .csl id ver _ _ len => liveK A.hd id ver (K (.pv (.int .i64 len)) none acc)
        | _ => False
      | some (.map _ _) => rduK A x [] fun v acc => mapOfK A.hd v fun es => K (.pv (.int .i64 es.length)) none acc
      | _ => False
    | _, _ => False
  | .call { callee := .builtin .max, args, .. } => rdusK A args.toList [] fun vs acc => match vs with
    | .pv (.int k a) :: r => maxL a r fun n => K (.pv (.int k n)) none acc
    | _ => False
  | .call { callee := .builtin .min, args, .. } => rdusK A args.toList [] fun vs acc => match vs with
    | .pv (.int k a) :: r => minL a r fun n => K (.pv (.int k n)) none acc
    | _ => False
  | .call { callee := .builtin .append, args, argTypes } => match d, args.toList, argTypes.toList with
    | some d, [s, x], [t, u] => match und P t, und P u with
      | some (.slice e), some (.slice _) => match szOf P e, tyi P e, zeroCs P e with
        | some sz, some ti, some zs => cond (Nat.blt 0 sz && Nat.beq zs.length sz) (rduK A s [] fun vs acc => rduK A x acc fun vx acc => appendK A.hd d sz (Nat.max ti.bytes sz) vs vx acc fun v u acc => K v u acc) False
        | _, _, _ => False
      | _, _ => False
    | _, _, _ => False
  | _ => False

/-! ### Calls -/
/-- Whom an operation calls, and with what. -/
def calleeK (A : Acc) (op : Op) (K : FuncId → List V → List Prop → Prop) : Prop :=
  match op with
  | .call { callee := .value f, args, .. } => rduK A f [] fun v acc => match v with
    | .pv (.fn g caps) => rdusK A args.toList acc fun vs acc => K g (vs ++ caps.map .pv) acc
    | .fn g caps => rdusK A args.toList acc fun vs acc => K g (vs ++ caps) acc
    | _ => False
  | _ => False
def isCall : Op → Bool
  | .call { callee := .value _, .. } => true
  | _ => false
/-- Operations that are left to be shown by themselves. -/
def isOdd (P : Program) : Op → Bool
  | .range .. | .next .. | .entry .. | .mapEntry .. | .entryStore .. | .typeAssert .. | .makeInterface .. => true
  | .convert a b _ => match und P a, und P b with
    | some (.int _), some (.int _) => false
    | _, _ => true
  | .call { callee := .builtin .copy, .. } => true
  | _ => false

def AllP : List Prop → Prop
  | [] => True
  | [p] => p
  | p :: ps => p ∧ AllP ps

def gdK (A : Acc) (ops : List Oper) (g : Option (Nat × Bool)) (K : Option Bool → Prop) : Prop :=
  match g with
  | none => K none
  | some (j, b) => match getL ops j with
    | some o => match o.dst with
      | some d => A.rd (.tmp d) fun v => match v, b with
        | .pv (.bool g), true => K (some g)
        | .pv (.bool g), false => K (some (!g))
        | .cond g0 (.pv (.bool g)), true => K (some (g0 && g))
        | .cond g0 (.pv (.bool g)), false => K (some (g0 && !g))
        | _, _ => False
      | none => False
    | none => False

def putS (s : S) (d : Option Nat) (v : V) (K : S → Prop) : Prop :=
  match d, s with
  | none, ⟨t, h⟩ => K ⟨t, h⟩
  | some d, ⟨t, h⟩ => setK t d v fun t => K ⟨t, h⟩
def updS (s : S) (u : Option (Nat × Nat × Blk)) (K : S → Prop) : Prop :=
  match u, s with
  | none, ⟨t, h⟩ => K ⟨t, h⟩
  | some (id, w, b), ⟨t, h⟩ => hsetK h id w b fun h => K ⟨t, h⟩
def under (g : Bool) : List Prop → List Prop
  | [] => []
  | ps => [g = true → AllP ps]

/-- A call with plain values, by its contract; what is lent must not come back. -/
def callFnK (P : Program) (A : Acc) (op : Op) (G : Prop) (K : V → List Prop → Prop) : Prop :=
  calleeK A op fun f vs obs => lendsK A.hd vs fun xs lent => ∃ r, (G → Fn P f xs r) ∧ cond lent (cond r.flat (K (.pv r) obs) False) (K (.pv r) obs)

def putHS (s : S) (h : Hp) (d : Option Nat) (v : V) (K : S → Prop) : Prop :=
  match d, s with
  | none, ⟨t, _⟩ => K ⟨t, h⟩
  | some d, ⟨t, _⟩ => setK t d v fun t => K ⟨t, h⟩
def owe (obs : List Prop) (p : Prop) : Prop :=
  match obs with
  | [] => p
  | ps => AllP ps ∧ p

/-- One operation of a region, its guard looked at. -/
def stepK (P : Program) (m : Bool) (ops : List Oper) (o : Oper) (s : S) (K : S → List Prop → Prop) : Prop :=
  gdK s.acc ops o.guard fun g => match g with
  | none => opK P m s.acc o.dst o.op fun v u obs => updS s u fun s' => putS s' o.dst v fun s' => K s' obs
  | some g => match isCall o.op with
    | true => callFnK P s.acc o.op (g = true) fun v obs => putS s o.dst (.cond g v) fun s' => K s' (under g obs)
    | false => opK P m s.acc o.dst o.op fun v u obs => match u with
      | none => putS s o.dst (.cond g v) fun s' => K s' (under g obs)
      | some u => g = true ∧ updS s (some u) fun s' => putS s' o.dst v fun s' => K s' obs

/-- A slice of the machine's own that nobody writes any more becomes a plain value. -/
def freeze1 (slot : Nat) (s : S) (K : S → Prop) : Prop :=
  match s with
  | ⟨t, h⟩ => getK t slot fun v => match v with
    | .sl id ver sz lo len => hgetK h id fun w b => match b with
      | .arr sz' n f => cond (Nat.beq w ver && Nat.beq sz sz') (lo + len ≤ n ∧ setK t slot (.pv (.slice sz len fun i => f (lo + i))) fun t => hsetK h id (w + 1) .gone fun h => K ⟨t, h⟩) False
      | _ => False
    | .ptr id ver off => hgetK h id fun w b => match b with
      | .cells cs => cond (Nat.beq w ver) (pvsK (dropL cs off) fun xs => setK t slot (.pv (.box xs)) fun t => hsetK h id (w + 1) .gone fun h => K ⟨t, h⟩) False
      | _ => False
    | .pv _ => K ⟨t, h⟩
    | _ => False
def freezeK : List (Nat × Nat) → Nat → S → (S → Prop) → Prop
  | [], _, s, K => K s
  | (r, slot) :: l, id, s, K => cond (Nat.beq r id) (freeze1 slot s fun s => freezeK l id s K) (freezeK l id s K)
/-- 'cz': slots whose slice or box is finished when the call that writes the first slot begins. -/
def wops (P : Program) (m : Bool) (cz : List (Nat × Nat)) (ops : List Oper) : List Oper → List Prop → (S → List Prop → Prop) → S → Prop
  | [], obs, K, s => K s obs
  | o :: os, obs, K, s => match o.guard, isCall o.op, isOdd P o.op with
    | none, true, _ => freezeK cz (o.dst.getD 0) s fun s => calleeK s.acc o.op fun f vs ob => addK ob obs fun obs => owe obs (CallN P f vs s fun v h => putHS s h o.dst v fun s' => wops P m cz ops os [] K s')
    | none, false, true => owe obs (OpN P o s fun s' => wops P m cz ops os [] K s')
    | _, _, _ => stepK P m ops o s fun s' ob => addK ob obs fun obs => wops P m cz ops os obs K s'

/-! ### A region that leaves its order open -/
def refsK : V → List Nat → (List Nat → Prop) → Prop
  | .ptr id _ _, acc, K => K (id :: acc)
  | .eptr id _ _ _ _, acc, K => K (id :: acc)
  | .sl id _ _ _ _, acc, K => K (id :: acc)
  | .csl id _ _ _ _, acc, K => K (id :: acc)
  | .mp id _, acc, K => K (id :: acc)
  | .fn _ caps, acc, K => refsCK caps acc K
  | _, acc, K => K acc
where
  refsCK : List V → List Nat → (List Nat → Prop) → Prop
  | [], acc, K => K acc
  | .ptr id _ _ :: r, acc, K => refsCK r (id :: acc) K
  | .eptr id _ _ _ _ :: r, acc, K => refsCK r (id :: acc) K
  | .sl id _ _ _ _ :: r, acc, K => refsCK r (id :: acc) K
  | .csl id _ _ _ _ :: r, acc, K => refsCK r (id :: acc) K
  | .mp id _ :: r, acc, K => refsCK r (id :: acc) K
  | _ :: r, acc, K => refsCK r acc K

/-- What an operation looked at and wrote: the blocks that it may read, the one that it wrote. -/
structure Foot where
  us : List Nat
  ids : List Nat
  wrote : Option Nat
def idsK (A : Acc) : List Operand → List Nat → (List Nat → Prop) → Prop
  | [], acc, K => K acc
  | x :: r, acc, K => A.rd x fun v => uncs (fun p => p) v [] fun v _ => refsK v acc fun acc => idsK A r acc K
def memN (x : Nat) : List Nat → Bool
  | [] => false
  | y :: r => cond (Nat.beq x y) true (memN x r)
/-- The slots that an operation reads, its guard's too. -/
def opersK : List Operand → List Nat → (List Nat → Prop) → Prop
  | [], acc, K => K acc
  | .tmp t :: r, acc, K => opersK r (t :: acc) K
  | _ :: r, acc, K => opersK r acc K
def usesK (ops : List Oper) (o : Oper) (K : List Nat → Prop) : Prop :=
  opersK o.op.operands.toList (match o.guard with
   | some (j, _) => match getL ops j with
     | some o' => o'.dst.toList
     | none => []
   | none => []) K
/-- A reader that shows no more than these slots and these blocks. -/
def racc (A : Acc) (U I : List Nat) : Acc :=
  ⟨fun x K => match x with
    | .tmp t => cond (memN t U) (A.rd (.tmp t) K) False
    | x => A.rd x K,
   fun id K => cond (memN id I) (A.hd id K) False⟩
def stepDK (P : Program) (m : Bool) (ops : List Oper) (o : Oper) (s : S) (K : S → List Prop → Foot → Prop) : Prop :=
  usesK ops o fun us => idsK s.acc o.op.operands.toList o.dst.toList fun ids => ∃ g, gdK (racc s.acc us ids) ops o.guard (fun g' => g' = g) ∧ match g with
  | none => match isCall o.op with
    | true => ∃ v ob, callFnK P (racc s.acc us ids) o.op True (fun v' ob' => v' = v ∧ ob' = ob) ∧ putS s o.dst v fun s' => K s' ob ⟨us, ids, none⟩
    | false => ∃ v u ob, opK P m (racc s.acc us ids) o.dst o.op (fun v' u' ob' => v' = v ∧ u' = u ∧ ob' = ob) ∧ updS s u fun s' => putS s' o.dst v fun s' => match u with
        | some (id, _, _) => cond (memN id ids) (K s' ob ⟨us, ids, some id⟩) False
        | none => K s' ob ⟨us, ids, none⟩
  | some g => match isCall o.op with
    | true => ∃ v ob, callFnK P (racc s.acc us ids) o.op (g = true) (fun v' ob' => v' = v ∧ ob' = ob) ∧ putS s o.dst (.cond g v) fun s' => K s' (under g ob) ⟨us, ids, none⟩
    | false => ∃ v ob, opK P m (racc s.acc us ids) o.dst o.op (fun v' u' ob' => v' = v ∧ u' = none ∧ ob' = ob) ∧ putS s o.dst (.cond g v) fun s' => K s' (under g ob) ⟨us, ids, none⟩
/-- 'tr': the last operation first. -/
def wopsD (P : Program) (m : Bool) (ops : List Oper) : List Oper → List Prop → List Foot → (S → List Prop → List Foot → Prop) → S → Prop
  | [], obs, tr, K, s => K s obs tr
  | o :: os, obs, tr, K, s => stepDK P m ops o s fun s' ob ft => addK ob obs fun obs => wopsD P m ops os obs (ft :: tr) K s'

def dstO (o : Oper) : List Nat := o.dst.toList
def meets (a b : List Nat) : Bool := a.any fun x => memN x b
/-- Two operations that may come in either order: neither writes what the other reads or writes. -/
def apart (o o' : Oper) (f f' : Foot) : Bool :=
  !meets (dstO o) f'.us && !meets (dstO o') f.us && !meets (dstO o) (dstO o') && !meets f.wrote.toList f'.ids && !meets f'.wrote.toList f.ids
/-- The operations that an operation waits for, at once or through others, as a list of Bools by number. -/
def direct (o : Oper) (i : Nat) : Bool := o.after.toList.any fun e => Region.binds .any e && Nat.beq e.on i
/-- 'i' comes before 'j' in any order: 'j' waits for it, at once or through others. -/
def waits (ops : List Oper) : Nat → Nat → Nat → Bool
  | 0, _, _ => false
  | n + 1, i, j => match getL ops j with
    | some o => direct o i || o.after.toList.any fun e => Region.binds .any e && waits ops n i e.on
    | none => false
def chkD (ops : List Oper) (tr : List Foot) : Bool :=
  let n := ops.length
  Nat.beq tr.length n && (List.range n).all fun j => (match getL ops j with | some o => o.after.toList.all (fun e => !Region.binds .any e || Nat.blt e.on j) | none => true) && (List.range j).all fun i =>
    (match getL ops i, getL ops j, getL tr i, getL tr j with
     | some o, some o', some f, some f' => apart o o' f f'
     | _, _, _, _ => false) || waits ops j i j

/-! ### Code -/
/-- How a function is walked: whether arithmetic wraps; which slots hold slices that are finished when a region begins (region, slot). -/
structure Mode where
  wrap : Bool := false
  fz : List (Nat × Nat) := []
  cz : List (Nat × Nat) := []
def W (P : Program) (m : Mode) : Code → (Exit → S → Prop) → S → Prop
  | .skip, Q, s => Q .normal s
  | .region id ops false, Q, s => freezeK m.fz id s fun s => wops P m.wrap m.cz ops.toList ops.toList [] (fun s' obs => owe obs (Q .normal s')) s
  | .region id ops true, Q, s => freezeK m.fz id s fun s => wopsD P m.wrap ops.toList ops.toList [] [] (fun s' obs tr => chkD ops.toList tr.reverse = true ∧ owe obs (Q .normal s')) s
  | .seq a b, Q, s => W P m a (fun e s' => match e with | .normal => W P m b Q s' | e => Q e s') s
  | .cond c a b, Q, s => rduK s.acc c [] fun v obs => match v with
    | .pv (.bool g) => owe obs (cond g (W P m a Q s) (W P m b Q s))
    | _ => False
  | .block id b, Q, s => W P m b (fun e s' => match e with
    | .exit i => cond (Nat.beq i id) (Q .normal s') (Q (.exit i) s')
    | e => Q e s') s
  | .loop b, Q, s => LoopN (W P m b) Q s
  | .exit id, Q, s => Q (.exit id) s
  | .ret, Q, s => Q .ret s
  | .label _, Q, s => Q .normal s
  | c, Q, s => CodeN P c Q s

/-! ### A function -/
def repK : Nat → (List V → Prop) → Prop
  | 0, K => K []
  | n + 1, K => repK n fun t => K (.junk :: t)
def initK : List PV → Nat → (List V → Prop) → Prop
  | [], n, K => repK n K
  | x :: xs, n, K => initK xs n fun t => K (.pv x :: t)
def giveK (hd : Nat → (Nat → Blk → Prop) → Prop) (v : V) (K : PV → Prop) : Prop :=
  match v with
  | .fn f caps => lendsK.lendsCK hd caps fun xs _ => K (.fn f xs)
  | v => lendK hd v fun x _ => K x
def retsK (P : Program) (s : S) : List ResultVar → (List PV → Prop) → Prop
  | [], K => K []
  | .tmp t :: r, K => s.acc.rd (.tmp t) fun v => giveK s.acc.hd v fun x => retsK P s r fun xs => K (x :: xs)
  | .cell a t :: r, K => match szOf P t, und P t with
    | some n, some u => s.acc.rd (.tmp a) fun v => match v with
      | .ptr id ver off => s.acc.hd id fun w b => match b with
        | .cells cs => cond (Nat.beq w ver) (loadK (aggB u) n (dropL cs off) fun v => giveK s.acc.hd v fun x => retsK P s r fun xs => K (x :: xs)) False
        | _ => False
      | _ => False
    | _, _ => False
mutual
/-- The same value, as far as anybody may look. -/
def Same : PV → PV → Prop
  | .slice sz n f, .slice sz' n' g => sz = sz' ∧ n = n' ∧ ∀ i, i < n → f i = g i
  | .nil, .slice _ n _ => n = 0
  | .tup xs, .tup ys => SameL xs ys
  | .agg xs, .agg ys => SameL xs ys
  | x, y => x = y
def SameL : List PV → List PV → Prop
  | [], [] => True
  | [x], [y] => Same x y
  | x :: xs, y :: ys => Same x y ∧ SameL xs ys
  | _, _ => False
end
def RetQ (P : Program) (rs : List ResultVar) (r : PV) : Exit → S → Prop
  | .normal, s => retsK P s rs fun xs => match xs with
    | [x] => Same x r
    | xs => Same (.tup xs) r
  | .ret, s => retsK P s rs fun xs => match xs with
    | [x] => Same x r
    | xs => Same (.tup xs) r
  | _, _ => False
/-- What is to be shown of a function's body. -/
def Body (P : Program) (m : Mode) (fn : Func) (args : List PV) (k : Nat) (r : PV) : Prop :=
  match fn.body with
  | some c => initK args k fun t => W P m c (RetQ P fn.results.toList r) ⟨t, []⟩
  | none => False
end Abs
