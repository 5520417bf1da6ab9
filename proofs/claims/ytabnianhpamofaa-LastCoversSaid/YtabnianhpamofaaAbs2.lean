/- What the abstract machine's values, blocks and states stand for in the model's memory; what a function's contract says; how these facts last while memory grows. -/
import Derived.Test.YtabnianhpamofaaAbs1
import Derived.Laws.Sem
set_option linter.unusedSectionVars false
set_option linter.unusedSimpArgs false
set_option linter.unusedVariables false
namespace Abs
open Go Go.RowKit

/-- 'v' reads as 'x' in memory 'w', all that it leads to lies in blocks of 'F'. -/
inductive PRep (w : World) (F : Nat → Prop) : Value → PV → Prop
  | unit : PRep w F (.tuple #[]) .unit
  | bool (b : Bool) : PRep w F (.bool b) (.bool b)
  | int (k : IntKind) (n : Int) : PRep w F (.int k n) (.int k n)
  | str (s : ByteArray) : PRep w F (.string s) (.str s)
  | agg {vs : List Value} {cs : List PV} (hl : vs.length = cs.length) (h : ∀ i, i < cs.length → PRep w F (vs.getD i undef) (cs.getD i .unit)) : PRep w F (.agg vs.toArray) (.agg cs)
  | tup {vs : List Value} {cs : List PV} (hl : vs.length = cs.length) (h : ∀ i, i < cs.length → PRep w F (vs.getD i undef) (cs.getD i .unit)) : PRep w F (.tuple vs.toArray) (.tup cs)
  | nil : PRep w F (.slice none 0 0) .nil
  | nilptr : PRep w F (.pointer none) .nilp
  | nilfn : PRep w F .nilFunc .nilp
  | empty (a : Option Addr) (cap : Nat) (sz : Nat) (f : Nat → PV) : PRep w F (.slice a 0 cap) (.slice sz 0 f)
  | slice {b off n cap sz : Nat} {f : Nat → PV} (g : Nat → Nat → Value) (hF : F b) (hcap : n ≤ cap) (hn : n ≤ 140737488355328)
      (hl : ∀ i, i < n → (f i).cells.length = sz) (hc : ∀ i j, i < n → j < sz → w.cell? ⟨b, off + i * sz + j, none⟩ = some (g i j))
      (h1 : ∀ i j, i < n → j < sz → (g i j).oneCell' = true) (h : ∀ i j, i < n → j < sz → PRep w F (g i j) ((f i).cells.getD j .unit)) : PRep w F (.slice (some ⟨b, off, none⟩) n cap) (.slice sz n f)
  | fn (f : FuncId) {vs : List Value} {cs : List PV} (hl : vs.length = cs.length) (h : ∀ i, i < cs.length → PRep w F (vs.getD i undef) (cs.getD i .unit)) : PRep w F (.func (.func f) #[] vs.toArray) (.fn f cs)
  | box {b off : Nat} {cs : List PV} (g : Nat → Value) (hF : F b) (hc : ∀ j, j < cs.length → w.cell? ⟨b, off + j, none⟩ = some (g j))
      (h : ∀ j, j < cs.length → PRep w F (g j) (cs.getD j .unit)) : PRep w F (.pointer (some ⟨b, off, none⟩)) (.box cs)
  | nomap : PRep w F (.map none) (.map [])
  | map {b clk : Nat} {ents : Array MapEntry} {es : List (PV × PV)} (hF : F b) (hb : w.heap[b]? = some (.map ents clk)) (hl : ents.size = es.length)
      (hk : ∀ i, i < es.length → PRep w F ((ents.toList.map (·.key)).getD i undef) ((es.map (·.1)).getD i .unit))
      (hv : ∀ i, i < es.length → PRep w F ((ents.toList.map (·.val)).getD i undef) ((es.map (·.2)).getD i .unit)) : PRep w F (.map (some b)) (.map es)

def PReps (w : World) (F : Nat → Prop) (vs : List Value) (cs : List PV) : Prop :=
  vs.length = cs.length ∧ ∀ i, i < cs.length → PRep w F (vs.getD i undef) (cs.getD i .unit)

theorem cell_of_heap {w w' : World} {b off : Nat} (h : w'.heap[b]? = w.heap[b]?) : w'.cell? ⟨b, off, none⟩ = w.cell? ⟨b, off, none⟩ := by
  simp only [World.cell?, h]

/-- A reading lasts: the blocks that it leads to hold what they held, and more blocks may be led to. -/
theorem PRep.mono {w w' : World} {F F' : Nat → Prop} {v : Value} {x : PV} (h : PRep w F v x) (hw : ∀ b, F b → w'.heap[b]? = w.heap[b]?) (hF : ∀ b, F b → F' b) : PRep w' F' v x := by
  induction h with
  | unit => exact .unit
  | bool b => exact .bool b
  | int k n => exact .int k n
  | str s => exact .str s
  | agg hl _ ih => exact .agg hl ih
  | tup hl _ ih => exact .tup hl ih
  | nil => exact .nil
  | nilptr => exact .nilptr
  | nilfn => exact .nilfn
  | empty a cap sz f => exact .empty a cap sz f
  | slice g hb hcap hn hl hc h1 _ ih => exact .slice g (hF _ hb) hcap hn hl (fun i j hi hj => by rw [cell_of_heap (hw _ hb)]; exact hc i j hi hj) h1 ih
  | fn f hl _ ih => exact .fn f hl ih
  | box g hb hc _ ih => exact .box g (hF _ hb) (fun j hj => by rw [cell_of_heap (hw _ hb)]; exact hc j hj) ih
  | nomap => exact .nomap
  | map hb hh hl _ _ ihk ihv => exact .map (hF _ hb) (by rw [hw _ hb]; exact hh) hl ihk ihv

theorem PReps.mono {w w' : World} {F F' : Nat → Prop} {vs : List Value} {cs : List PV} (h : PReps w F vs cs) (hw : ∀ b, F b → w'.heap[b]? = w.heap[b]?) (hF : ∀ b, F b → F' b) : PReps w' F' vs cs :=
  ⟨h.1, fun i hi => (h.2 i hi).mono hw hF⟩

/-- Whether a contract says that the tape is no less far behind a call. -/
class DMode where
  d : Bool
  keep : Nat → Obj → Prop
abbrev noDraws : DMode := ⟨false, fun _ _ => False⟩
abbrev draws : DMode := ⟨true, fun _ _ => False⟩
variable [DMode]
/-- The blocks that hold what they hold from the start on (a table of the library's). -/
def KeepsW (w : World) : Prop := ∀ b o, DMode.keep b o → w.heap[b]? = some o
/-- Below block number B nothing has turned, and the tape is no less far. -/
structure Bel (B : Nat) (w w' : World) : Prop where
  out : Below B w w'
  drawn : DMode.d = true → w.drawn ≤ w'.drawn
theorem Bel.refl (B : Nat) (w : World) : Bel B w w := ⟨Below.refl B w, fun _ => Nat.le_refl _⟩
theorem Bel.trans {B : Nat} {a b c : World} (h : Bel B a b) (k : Bel B b c) : Bel B a c := ⟨h.out.trans k.out, fun hd => Nat.le_trans (h.drawn hd) (k.drawn hd)⟩
theorem Bel.mono {B B' : Nat} {w w' : World} (h : Bel B w w') (hB : B' ≤ B) : Bel B' w w' := ⟨h.out.mono hB, h.drawn⟩
theorem Bel.size {B : Nat} {w w' : World} (h : Bel B w w') : w.heap.size ≤ w'.heap.size := h.out.size
theorem Bel.block {B : Nat} {w w' : World} (h : Bel B w w') : ∀ k, k < B → w'.heap[k]? = w.heap[k]? := h.out.block
theorem Bel.drew {B : Nat} {a w : World} (h : Bel B a w) : Bel B a w.drew := ⟨h.out.drew, fun hd => Nat.le_trans (h.drawn hd) (Nat.le_succ _)⟩
theorem Bel.alloc {B : Nat} {a w : World} (h : Bel B a w) (hB : B ≤ w.heap.size) (o : Obj) : Bel B a (w.alloc o) := ⟨h.out.alloc hB o, h.drawn⟩

/-- A function that is entered when it is called. -/
def Enters (P : Program) (f : FuncId) : Prop := ∃ fn, P.funcs[f]? = some fn ∧ (fn.name == "runtime.NumGoroutine") = false ∧ fn.body.isNone = false
/-- What a call of 'f' does: it is entered and returns, or it is a row of the model's own. -/
def Does (P : Program) (f : FuncId) (args : Array Value) (w : World) (R : Value → World → Prop) : Prop :=
  (Enters P f ∧ Calls P f args w fun e w' => ∃ v, e = .returned v ∧ R v w') ∨ ∃ v w', (callFunc f args).run P w = .ok (.value v) w' ∧ R v w'

/-- A CONTRACT: called with arguments that read so, the function returns a value that reads as 'r', in the arguments' memory or in new memory; nothing that was there has changed. -/
def Fn (P : Program) (f : FuncId) (args : List PV) (r : PV) : Prop :=
  ∀ (w : World) (F : Nat → Prop) (vs : List Value), (∀ b, F b → b < w.heap.size) → PReps w F vs args → KeepsW w →
    Does P f vs.toArray w fun v w' => Bel w.heap.size w w' ∧ PRep w' (fun b => F b ∨ (w.heap.size ≤ b ∧ b < w'.heap.size)) v r

/-! ### States -/
/-- The machine's state, seen as functions. -/
structure SS where
  n : Nat
  t : Nat → V
  h : Nat → Nat × Blk

def hgetF : Hp → Nat → Nat × Blk
  | [], _ => (0, .gone)
  | (i, v, b) :: r, id => if i = id then (v, b) else hgetF r id
def S.view (s : S) : SS := ⟨s.t.length, fun i => s.t.getD i .junk, hgetF s.h⟩

mutual
/-- What a slot stands for. A reference to a dead version stands for anything. -/
def VRep (w : World) (G : Nat → Prop) (ρ : Nat → Option Nat) (h : Nat → Nat × Blk) : V → Value → Prop
  | .junk, _ => True
  | .pv x, v => PRep w G v x
  | .cond g x, v => (g = true → VRep w G ρ h x v) ∧ (g = false → v = undef)
  | .ptr id ver off, v => v.oneCell' = true ∧ ver ≤ (h id).1 ∧ ((h id).1 = ver → ∃ b, ρ id = some b ∧ v = .pointer (some ⟨b, off, none⟩))
  | .eptr id ver sz i j, v => v.oneCell' = true ∧ ver ≤ (h id).1 ∧ ((h id).1 = ver → ∃ b, ρ id = some b ∧ v = .pointer (some ⟨b, i * sz + j, none⟩))
  | .sl id ver sz lo len, v => v.oneCell' = true ∧ ver ≤ (h id).1 ∧ ((h id).1 = ver → (len = 0 ∧ ∃ a, v = .slice a 0 0) ∨
      ∃ b cap c e, ρ id = some b ∧ v = .slice (some ⟨b, lo * sz, none⟩) len cap ∧ len ≤ cap ∧ w.heap[b]? = some (.cells c e (0, 0)) ∧ (lo + cap) * sz = c.size)
  | .csl id ver _ off len, v => v.oneCell' = true ∧ ver ≤ (h id).1 ∧ ((h id).1 = ver → ∃ b cap, ρ id = some b ∧ v = .slice (some ⟨b, off, none⟩) len cap ∧ len ≤ cap)
  | .mp id ver, v => v.oneCell' = true ∧ ver ≤ (h id).1 ∧ ((h id).1 = ver → ∃ b, ρ id = some b ∧ v = .map (some b))
  | .fn f caps, v => ∃ vs : List Value, v = .func (.func f) #[] vs.toArray ∧ VReps w G ρ h caps vs
  | .tup xs, v => ∃ vs : List Value, v = .tuple vs.toArray ∧ VReps w G ρ h xs vs
def VReps (w : World) (G : Nat → Prop) (ρ : Nat → Option Nat) (h : Nat → Nat × Blk) : List V → List Value → Prop
  | [], vs => vs = []
  | x :: xs, vs => ∃ u us, vs = u :: us ∧ VRep w G ρ h x u ∧ VReps w G ρ h xs us
end

/-- What a block stands for: the model's block 'ob' (none: no block is made yet: a nil slice). -/
def BRep (w : World) (G : Nat → Prop) (ρ : Nat → Option Nat) (h : Nat → Nat × Blk) (ob : Option Nat) : Blk → Prop
  | .gone => True
  | .cells cs => ∃ b c e, ob = some b ∧ w.heap[b]? = some (.cells c e (0, 0)) ∧ c.size = cs.length ∧ ∀ j, j < cs.length → VRep w G ρ h (cs.getD j .junk) (c.getD j undef)
  | .arr sz n f => (ob = none ∧ n = 0) ∨ ∃ b c e, ob = some b ∧ w.heap[b]? = some (.cells c e (0, 0)) ∧ n * sz ≤ c.size ∧ n ≤ 140737488355328 ∧ 0 < sz ∧
      (∀ i, i < n → (f i).cells.length = sz) ∧ (∀ i j, i < n → j < sz → (c.getD (i * sz + j) undef).oneCell' = true) ∧ ∀ i j, i < n → j < sz → PRep w G (c.getD (i * sz + j) undef) ((f i).cells.getD j .unit)
  | .map es => ∃ b ents clk, ob = some b ∧ w.heap[b]? = some (.map ents clk) ∧ ents.size = es.length ∧
      (∀ i, i < es.length → PRep w G ((ents.toList.map (·.key)).getD i undef) ((es.map (·.1)).getD i .unit)) ∧
      (∀ i, i < es.length → PRep w G ((ents.toList.map (·.val)).getD i undef) ((es.map (·.2)).getD i .unit))

/-- The marks of the ranges over functions that the frame has passed: a block each, with no deferred call in it. -/
def Marks (Z Y : Nat → Obj → Prop) (base : Nat) (G : Nat → Prop) (ρ : Nat → Option Nat) (w : World) (ds : List Deferred) : Prop :=
  (∀ d ∈ ds, ∃ D, d = { target := .collected D, args := #[] } ∧ base ≤ D ∧ w.heap[D]? = some (.deferred (some [])) ∧ ¬ G D ∧ ∀ i, ρ i ≠ some D) ∧ ds.Nodup ∧
    (∀ b o, Z b o → base ≤ b ∧ w.heap[b]? = some o ∧ ¬ G b ∧ ∀ i, ρ i ≠ some b) ∧ ∀ b o, Y b o → w.heap[b]? = some o ∧ ∀ i, ρ i ≠ some b
/-- The blocks that the arguments led to; blocks besides that hold what they held. -/
structure Env where
  F : Nat → Prop
  Z : Nat → Obj → Prop
  Y : Nat → Obj → Prop
  sub : ∀ b o, DMode.keep b o → Y b o

/-- The frame 'a' and the memory 'w' are as the state 's' says; 'w0': the memory when the function was entered; 'F0': the blocks that its arguments led to. -/
structure RelX (w0 : World) (F0 : Env) (G : Nat → Prop) (ρ : Nat → Option Nat) (s : SS) (a : Act) (w : World) : Prop where
  defers : Marks F0.Z F0.Y w0.heap.size G ρ w a.defers
  size : a.tmps.size = s.n
  below : Bel w0.heap.size w0 w
  foot : ∀ b, G b → b < w.heap.size ∧ (F0.F b ∨ w0.heap.size ≤ b)
  own : ∀ i b, ρ i = some b → w0.heap.size ≤ b ∧ b < w.heap.size ∧ ¬ G b
  inj : ∀ i j b, ρ i = some b → ρ j = some b → i = j
  blk : ∀ i, BRep w G ρ s.h (ρ i) (s.h i).2
  slot : ∀ i, VRep w G ρ s.h (s.t i) (a.tmps.getD i undef)

theorem RelX.kept {w0 : World} {F0 : Env} {G : Nat → Prop} {ρ : Nat → Option Nat} {s : SS} {a : Act} {w : World} (R : RelX w0 F0 G ρ s a w) : KeepsW w := fun b o h => (R.defers.2.2.2 b o (F0.sub b o h)).1
def Rel (w0 : World) (F0 : Env) (s : SS) (a : Act) (w : World) : Prop := ∃ G ρ, RelX w0 F0 G ρ s a w

/-! ### The nodes whose meaning is not computed: a call in general, any other operation, a loop -/
/-- A call: whatever it hands back and leaves in memory meets K. -/
def CallSem (P : Program) (f : FuncId) (args : List V) (s : SS) (K : V → (Nat → Nat × Blk) → Prop) : Prop :=
  ∀ w0 F0 G ρ a w, RelX w0 F0 G ρ s a w → ∀ vs, VReps w G ρ s.h args vs →
    Does P f vs.toArray w fun v w' => ∃ x h', K x h' ∧ ∃ G' ρ', RelX w0 F0 G' ρ' ⟨s.n, s.t, h'⟩ a w' ∧ VRep w' G' ρ' h' x v

@[irreducible] def CallN (P : Program) (f : FuncId) (args : List V) (s : S) (K : V → Hp → Prop) : Prop :=
  CallSem P f args s.view fun x h' => ∃ hp, hgetF hp = h' ∧ K x hp

/-- Any operation, as it is. -/
def OpSem (P : Program) (o : Oper) (s : SS) (K : SS → Prop) : Prop :=
  ∀ w0 F0 a w, Rel w0 F0 s a w → ∀ (next : Act → World → Prop) (Q : Exit → Act → World → Prop), (∀ s' a' w', K s' → Rel w0 F0 s' a' w' → next a' w') → o.wp P a w next Q

@[irreducible] def OpN (P : Program) (o : Oper) (s : S) (K : S → Prop) : Prop := OpSem P o s.view fun ss => ∃ s', s'.view = ss ∧ K s'

/-- A piece of code, as it is. -/
def CodeSem (P : Program) (c : Code) (Q : Exit → S → Prop) (s : S) : Prop :=
  ∀ w0 F0 a w, Rel w0 F0 s.view a w → c.wp P (fun e a' w' => ∃ s', Q e s' ∧ Rel w0 F0 s'.view a' w') a w
@[irreducible] def CodeN (P : Program) (c : Code) (Q : Exit → S → Prop) (s : S) : Prop := CodeSem P c Q s

/-- Whatever is as 's' says is as 's'' says. -/
def Le (s s' : S) : Prop := ∀ w0 F0 a w, Rel w0 F0 s.view a w → Rel w0 F0 s'.view a w

/-- A loop: the least predicate that a round's walk hands on. -/
def LoopF (w : (Exit → S → Prop) → S → Prop) (Q : Exit → S → Prop) (I : S → Prop) (s : S) : Prop :=
  w (fun e s' => match e with | .normal => I s' | e => Q e s') s
@[irreducible] def LoopN (w : (Exit → S → Prop) → S → Prop) (Q : Exit → S → Prop) (s : S) : Prop :=
  ∀ I : S → Prop, (∀ s s', Le s s' → I s' → I s) → (∀ s, LoopF w Q I s → I s) → I s
end Abs
