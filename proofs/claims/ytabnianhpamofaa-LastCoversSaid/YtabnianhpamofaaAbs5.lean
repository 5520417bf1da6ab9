/- Single operations: what the generator says of one holds of the model's. First part: the readers; operations that only compute. -/
import Derived.Test.YtabnianhpamofaaAbs4
import Derived.Laws.Entries
import Derived.Laws.Cells
import Derived.Laws.CopyRow
import Derived.Laws.Append
set_option linter.unusedSectionVars false
set_option linter.unusedSimpArgs false
set_option linter.unusedVariables false
namespace Abs
open Go Go.RowKit
variable [DMode]

theorem getL_eq {α : Type} (l : List α) (n : Nat) : getL l n = l[n]? := by
  induction l generalizing n with
  | nil => rfl
  | cons x xs ih => cases n with
    | zero => rfl
    | succ n => simpa [getL] using ih n
theorem dropL_eq {α : Type} (l : List α) (n : Nat) : dropL l n = l.drop n := by
  induction l generalizing n with
  | nil => cases n <;> rfl
  | cons x xs ih => cases n with
    | zero => rfl
    | succ n => simpa [dropL] using ih n
theorem tyi_eq {P : Program} {t : Nat} {i : TypeInfo} (h : tyi P t = some i) : P.info? t = some i := by
  unfold tyi at h
  rw [getL_eq, Array.getElem?_toList] at h
  have hlt : t < P.types.size := (Array.getElem?_eq_some_iff.1 h).1
  show Tables.info? _ _ = _
  unfold Tables.info?
  rw [if_pos hlt]; exact h
theorem und_eq {P : Program} {t : Nat} {d : TypeDesc} (h : und P t = some d) : P.underlying t = some d := by
  unfold und at h
  split at h
  · rename_i i hi
    have h1 := tyi_eq hi
    obtain ⟨desc, _, _, _, _, _, _, _, _, _⟩ := i
    simp only at h
    unfold Program.underlying
    rw [h1]
    cases desc
    case named nm u =>
      simp only at h ⊢
      split at h
      · rename_i j hj
        rw [tyi_eq hj]; exact h
      · cases h
    all_goals exact h
  · cases h
theorem szOf_eq {P : Program} {t n : Nat} (h : szOf P t = some n) : ∃ i, P.info? t = some i ∧ i.size = n := by
  unfold szOf at h
  split at h
  · rename_i i hi
    exact ⟨i, tyi_eq hi, by simpa using h⟩
  · cases h
theorem run_und {P : Program} {t : Nat} {d : TypeDesc} (h : und P t = some d) (w : World) : (underlying t).run P w = .ok d w := by
  exact run_underlying (und_eq h) w
theorem run_typ {P : Program} {t : Nat} {i : TypeInfo} (h : P.info? t = some i) (w : World) : (typeInfo t).run P w = .ok i w := by
  simp [typeInfo, h]
theorem run_siz {P : Program} {t n : Nat} (h : szOf P t = some n) (w : World) : (Go.sizeOf t).run P w = .ok n w := by
  obtain ⟨i, h1, h2⟩ := szOf_eq h
  simp [Go.sizeOf, run_typ h1, h2]
theorem run_agg {P : Program} {t : Nat} {d : TypeDesc} (h : und P t = some d) (w : World) : (isAgg t).run P w = .ok (aggB d) w := by
  simp only [isAgg, Sem.run_bind, run_und h, Result.andThen_ok]
  cases d <;> rfl

/-- A reader that shows no more than the state has. -/
structure Sub (A : Acc) (s : SS) : Prop where
  rd : ∀ x K, A.rd x K → s.acc.rd x K
  hd : ∀ id K, A.hd id K → s.acc.hd id K
theorem Sub.refl (s : SS) : Sub s.acc s := ⟨fun _ _ h => h, fun _ _ h => h⟩

/-! ### The readers -/
def Reads (s : SS) (x : Operand) (v : V) : Prop := ∀ w0 F0 G ρ a w, RelX w0 F0 G ρ s a w → VRep w G ρ s.h v (a.eval x)
def ReadsL (s : SS) (xs : List Operand) (vs : List V) : Prop := ∀ w0 F0 G ρ a w, RelX w0 F0 G ρ s a w → VReps w G ρ s.h vs (xs.map a.eval)
def AllL (ob : List Prop) : Prop := ∀ p, p ∈ ob → p
theorem allL_cons {p : Prop} {ob : List Prop} (h : AllL (p :: ob)) : p ∧ AllL ob := ⟨h p (by simp), fun q hq => h q (by simp [hq])⟩

theorem scalarPV_rep {v : Value} {x : PV} (h : scalarPV v = some x) (w : World) (F : Nat → Prop) : PRep w F v x := by
  unfold scalarPV at h
  split at h <;> first | (cases h; constructor) | cases h
theorem scalarsPV_rep : ∀ {vs : List Value} {xs : List PV}, scalarsPV vs = some xs → ∀ (w : World) (F : Nat → Prop), vs.length = xs.length ∧ ∀ i, i < xs.length → PRep w F (vs.getD i undef) (xs.getD i .unit)
  | [], xs, h, w, F => by simp only [scalarsPV, Option.some.injEq] at h; subst h; exact ⟨rfl, fun i hi => by simp at hi⟩
  | v :: vs, xs, h, w, F => by
    simp only [scalarsPV] at h
    split at h
    · rename_i x ys h1 h2
      cases h
      obtain ⟨e, hh⟩ := scalarsPV_rep h2 w F
      refine ⟨by simp [e], fun i hi => ?_⟩
      cases i with
      | zero => simpa using scalarPV_rep h1 w F
      | succ i => simpa using hh i (by simpa using hi)
    · cases h
theorem constPV_rep {v : Value} {x : PV} (h : constPV v = some x) (w : World) (F : Nat → Prop) : PRep w F v x := by
  unfold constPV at h
  split at h
  · rename_i cs
    split at h
    · rename_i xs h1
      cases h
      obtain ⟨e, hh⟩ := scalarsPV_rep h1 w F
      have := PRep.agg (w := w) (F := F) e hh
      rwa [Array.toArray_toList] at this
    · cases h
  · exact scalarPV_rep h w F

theorem valK_elim {s : SS} {x : Operand} {K : V → Prop} (h : valK s.t x K) : ∃ v, K v ∧ Reads s x v := by
  cases x with
  | tmp i => exact ⟨s.t i, h, fun w0 F0 G ρ a w R => R.slot i⟩
  | const v =>
    simp only [valK] at h
    split at h
    · rename_i y hy
      exact ⟨_, h, fun w0 F0 G ρ a w R => by simp only [VRep, Act.eval]; exact constPV_rep hy w G⟩
    · exact h.elim
  | global g => exact h.elim
  | func f => exact ⟨_, h, fun w0 F0 G ρ a w R => by
      simp only [VRep, Act.eval]
      exact PRep.fn f (vs := []) (cs := []) rfl (fun i hi => by simp at hi)⟩

theorem uncs_elim (T : Prop → Prop) : ∀ (v : V) (acc : List Prop) (K : V → List Prop → Prop), uncs T v acc K →
    ∃ v' ob, K v' ob ∧ (∀ p, p ∈ acc → p ∈ ob) ∧ ∀ c : Prop, (∀ p, T p → c → p) → AllL ob → c → ∀ w G ρ h u, VRep w G ρ h v u → VRep w G ρ h v' u
  | .cond g v, acc, K, h => by
    simp only [uncs] at h
    obtain ⟨v', ob, h1, h2, h3⟩ := uncs_elim T v _ K h
    refine ⟨v', ob, h1, fun p hp => h2 p (by simp [hp]), fun c hc hob hcc w G ρ h u hu => h3 c hc hob hcc w G ρ h u ?_⟩
    have hg : g = true := hc _ (hob _ (h2 _ (by simp))) hcc
    simp only [VRep] at hu
    exact hu.1 hg
  | .junk, acc, K, h => ⟨_, acc, h, fun _ h => h, fun _ _ _ _ _ _ _ _ _ h => h⟩
  | .pv _, acc, K, h => ⟨_, acc, h, fun _ h => h, fun _ _ _ _ _ _ _ _ _ h => h⟩
  | .ptr _ _ _, acc, K, h => ⟨_, acc, h, fun _ h => h, fun _ _ _ _ _ _ _ _ _ h => h⟩
  | .eptr _ _ _ _ _, acc, K, h => ⟨_, acc, h, fun _ h => h, fun _ _ _ _ _ _ _ _ _ h => h⟩
  | .sl _ _ _ _ _, acc, K, h => ⟨_, acc, h, fun _ h => h, fun _ _ _ _ _ _ _ _ _ h => h⟩
  | .csl _ _ _ _ _, acc, K, h => ⟨_, acc, h, fun _ h => h, fun _ _ _ _ _ _ _ _ _ h => h⟩
  | .mp _ _, acc, K, h => ⟨_, acc, h, fun _ h => h, fun _ _ _ _ _ _ _ _ _ h => h⟩
  | .fn _ _, acc, K, h => ⟨_, acc, h, fun _ h => h, fun _ _ _ _ _ _ _ _ _ h => h⟩
  | .tup _, acc, K, h => ⟨_, acc, h, fun _ h => h, fun _ _ _ _ _ _ _ _ _ h => h⟩

section
variable {s : SS}
theorem rduK_elim {x : Operand} {acc : List Prop} {K : V → List Prop → Prop} {A : Acc} (hA : Sub A s) (h : rduK A x acc K) :
    ∃ v ob, K v ob ∧ (AllL ob → AllL acc) ∧ (AllL ob → Reads s x v) := by
  obtain ⟨v, h1, h2⟩ := valK_elim (s := s) (x := x) (hA.rd _ _ h)
  obtain ⟨v', ob, h3, h4, h5⟩ := uncs_elim _ v acc K h1
  exact ⟨v', ob, h3, fun ha p hp => ha p (h4 p hp), fun ha w0 F0 G ρ a w R => h5 True (fun p hp _ => hp) ha trivial _ _ _ _ _ (h2 w0 F0 G ρ a w R)⟩
theorem rduTK_elim {c : Prop} {x : Operand} {acc : List Prop} {K : V → List Prop → Prop} {A : Acc} (hA : Sub A s) (h : rduTK A (fun p => c → p) x acc K) :
    ∃ v ob, K v ob ∧ (AllL ob → AllL acc) ∧ (AllL ob → c → Reads s x v) := by
  obtain ⟨v, h1, h2⟩ := valK_elim (s := s) (x := x) (hA.rd _ _ h)
  obtain ⟨v', ob, h3, h4, h5⟩ := uncs_elim _ v acc K h1
  exact ⟨v', ob, h3, fun ha p hp => ha p (h4 p hp), fun ha hc w0 F0 G ρ a w R => h5 c (fun p hp hc => hp hc) ha hc _ _ _ _ _ (h2 w0 F0 G ρ a w R)⟩
theorem rdusK_elim {A : Acc} (hA : Sub A s) : ∀ {xs : List Operand} {acc : List Prop} {K : List V → List Prop → Prop}, rdusK A xs acc K →
    ∃ vs ob, K vs ob ∧ (AllL ob → AllL acc) ∧ (AllL ob → ReadsL s xs vs)
  | [], acc, K, h => ⟨[], acc, h, fun h => h, fun _ _ _ _ _ _ _ _ => by simp only [VReps, List.map_nil]⟩
  | x :: xs, acc, K, h => by
    simp only [rdusK] at h
    obtain ⟨v, ob, h1, h2, h3⟩ := rduK_elim hA h
    obtain ⟨vs, ob', h4, h5, h6⟩ := rdusK_elim hA h1
    exact ⟨v :: vs, ob', h4, fun h => h2 (h5 h), fun h w0 F0 G ρ a w R => by
      simp only [VReps, List.map_cons]
      exact ⟨_, _, rfl, h3 (h5 h) w0 F0 G ρ a w R, h6 h w0 F0 G ρ a w R⟩⟩
theorem rduPartsK_elim {A : Acc} (hA : Sub A s) : ∀ {xs : List (Nat × Operand)} {acc : List Prop} {K : List (Nat × V) → List Prop → Prop}, rduPartsK A xs acc K →
    ∃ vs ob, K vs ob ∧ (AllL ob → AllL acc) ∧ vs.map (·.1) = xs.map (·.1) ∧ (AllL ob → ReadsL s (xs.map (·.2)) (vs.map (·.2)))
  | [], acc, K, h => ⟨[], acc, h, fun h => h, rfl, fun _ _ _ _ _ _ _ _ => by simp only [VReps, List.map_nil]⟩
  | (i, x) :: xs, acc, K, h => by
    simp only [rduPartsK] at h
    obtain ⟨v, ob, h1, h2, h3⟩ := rduK_elim hA h
    obtain ⟨vs, ob', h4, h5, h7, h6⟩ := rduPartsK_elim hA h1
    exact ⟨(i, v) :: vs, ob', h4, fun h => h2 (h5 h), by simp [h7], fun h w0 F0 G ρ a w R => by
      simp only [VReps, List.map_cons]
      exact ⟨_, _, rfl, h3 (h5 h) w0 F0 G ρ a w R, h6 h w0 F0 G ρ a w R⟩⟩
end

/-! ### What is to be shown of an operation -/
def Runs (P : Program) (o : Oper) (a : Act) (w : World) (x : Value) (w' : World) : Prop :=
  (execOp a.eval o).run P w = .ok (.value x) w' ∨ ((execOp a.eval o).run P w = .ok .skip w' ∧ x = undef)
def OpOK (P : Program) (o : Oper) (s : SS) (v : V) (u : Option (Nat × Nat × Blk)) : Prop :=
  ∀ w0 F0 G ρ a w, RelX w0 F0 G ρ s a w → ∃ x w' G' ρ', Runs P o a w x w' ∧ RelX w0 F0 G' ρ' (s.upd u) a w' ∧ VRep w' G' ρ' (s.upd u).h v x
theorem OpOK.pure {P : Program} {o : Oper} {s : SS} {v : V}
    (h : ∀ w0 F0 G ρ a w, RelX w0 F0 G ρ s a w → ∃ x, (execOp a.eval o).run P w = .ok (.value x) w ∧ VRep w G ρ s.h v x) : OpOK P o s v none :=
  fun w0 F0 G ρ a w R => let ⟨x, h1, h2⟩ := h w0 F0 G ρ a w R; ⟨x, w, G, ρ, .inl h1, R, h2⟩
/-- What the lemma on an operation says. -/
def Elim (P : Program) (s : SS) (op : Op) (K : V → Option (Nat × Nat × Blk) → List Prop → Prop) : Prop :=
  ∃ v u ob, K v u ob ∧ (AllL ob → ∀ dst ty pos af g, OpOK P ⟨dst, op, ty, pos, af, g⟩ s v u)

section
variable {P : Program} {s : SS} {m : Bool} {d : Option Nat} {K : V → Option (Nat × Nat × Blk) → List Prop → Prop}
theorem vint {w : World} {G : Nat → Prop} {ρ : Nat → Option Nat} {h : Nat → Nat × Blk} {k : IntKind} {n : Int} {x : Value} (hh : VRep w G ρ h (.pv (.int k n)) x) : x = .int k n := by
  simp only [VRep] at hh; cases hh; rfl
theorem vbool {w : World} {G : Nat → Prop} {ρ : Nat → Option Nat} {h : Nat → Nat × Blk} {b : Bool} {x : Value} (hh : VRep w G ρ h (.pv (.bool b)) x) : x = .bool b := by
  simp only [VRep] at hh; cases hh; rfl
theorem vint' {w : World} {G : Nat → Prop} {ρ : Nat → Option Nat} {h : Nat → Nat × Blk} {k : IntKind} {n : Int} : VRep w G ρ h (.pv (.int k n)) (.int k n) := by
  simp only [VRep]; exact .int k n
theorem vbool' {w : World} {G : Nat → Prop} {ρ : Nat → Option Nat} {h : Nat → Nat × Blk} {b : Bool} : VRep w G ρ h (.pv (.bool b)) (.bool b) := by
  simp only [VRep]; exact .bool b

theorem el_move {x : Operand} {A : Acc} (hA : Sub A s) (h : opK P m A d (.move x) K) : Elim P s (.move x) K := by
  obtain ⟨v, ob, h1, _, h3⟩ := rduK_elim hA h
  exact ⟨v, none, ob, h1, fun ha dst ty pos af g => .pure fun w0 F0 G ρ a w R => ⟨a.eval x, rfl, h3 ha w0 F0 G ρ a w R⟩⟩
theorem el_assign {x : Operand} {A : Acc} (hA : Sub A s) (h : opK P m A d (.assign x) K) : Elim P s (.assign x) K := by
  obtain ⟨v, ob, h1, _, h3⟩ := rduK_elim hA h
  exact ⟨v, none, ob, h1, fun ha dst ty pos af g => .pure fun w0 F0 G ρ a w R => ⟨a.eval x, rfl, h3 ha w0 F0 G ρ a w R⟩⟩
theorem el_pick {c x y : Operand} {A : Acc} (hA : Sub A s) (h : opK P m A d (.pick c x y) K) : Elim P s (.pick c x y) K := by
  obtain ⟨vc, ob1, h1, hs1, hr1⟩ := rduK_elim hA h
  split at h1
  · rename_i g
    obtain ⟨va, ob2, h2, hs2, hr2⟩ := rduTK_elim hA h1
    split at h2
    · rename_i xb
      obtain ⟨vb, ob3, h3, hs3, hr3⟩ := rduTK_elim hA h2
      split at h3
      · rename_i yb
        refine ⟨_, none, ob3, h3, fun ha dst ty pos af gg => .pure fun w0 F0 G ρ a w R => ?_⟩
        have e1 := vbool (hr1 (hs2 (hs3 ha)) w0 F0 G ρ a w R)
        cases g with
        | true =>
          have e2 := vbool (hr2 (hs3 ha) rfl w0 F0 G ρ a w R)
          exact ⟨.bool xb, by simp [execOp, e1, asBool, e2], vbool'⟩
        | false =>
          have e2 := vbool (hr3 ha rfl w0 F0 G ρ a w R)
          exact ⟨.bool yb, by simp [execOp, e1, asBool, e2], vbool'⟩
      · exact h3.elim
    · exact h2.elim
  · exact h1.elim
end
end Abs
