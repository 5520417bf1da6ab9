/- Single operations, fifth part: two operands; parts of results; closures; len, max, min; cuts of slices; literals. -/
import Derived.Test.YtabnianhpamofaaAbs9
set_option linter.unusedSectionVars false
set_option linter.unusedSimpArgs false
set_option linter.unusedVariables false
namespace Abs
open Go Go.RowKit
variable [DMode]

section
variable {P : Program} {s : SS} {m : Bool} {d : Option Nat} {K : V → Option (Nat × Nat × Blk) → List Prop → Prop}

theorem intOp_elim {m : Bool} {op : BinOp} {k : IntKind} {a b : Int} {acc : List Prop} {K : V → List Prop → Prop} (h : intOp m op k a b acc K) :
    ∃ v ob, K v ob ∧ (AllL ob → AllL acc ∧ ∀ (P : Program) (t : TypeId) (w : World) (G : Nat → Prop) (ρ : Nat → Option Nat) (hh : Nat → Nat × Blk),
      ∃ x, (binOp op t (.int k a) (.int k b)).run P w = .ok x w ∧ VRep w G ρ hh v x) := by
  cases op
  case add =>
    obtain ⟨n', ob, h1, h2⟩ := arith_elim h
    exact ⟨_, ob, h1, fun ha => ⟨(h2 ha).1, fun P t w G ρ hh => ⟨.int k n', by simp [binOp, Op.intArith, (h2 ha).2], vint'⟩⟩⟩
  case sub =>
    obtain ⟨n', ob, h1, h2⟩ := arith_elim h
    exact ⟨_, ob, h1, fun ha => ⟨(h2 ha).1, fun P t w G ρ hh => ⟨.int k n', by simp [binOp, Op.intArith, (h2 ha).2], vint'⟩⟩⟩
  case mul =>
    obtain ⟨n', ob, h1, h2⟩ := arith_elim h
    exact ⟨_, ob, h1, fun ha => ⟨(h2 ha).1, fun P t w G ρ hh => ⟨.int k n', by simp [binOp, Op.intArith, (h2 ha).2], vint'⟩⟩⟩
  case quo =>
    obtain ⟨n', ob, h1, h2⟩ := arith_elim h
    refine ⟨_, ob, h1, fun ha => ?_⟩
    obtain ⟨h3, h4⟩ := h2 ha
    obtain ⟨hb, h3⟩ := allL_cons h3
    exact ⟨h3, fun P t w G ρ hh => ⟨.int k n', by simp [binOp, Op.intDiv, hb, h4], vint'⟩⟩
  case rem =>
    refine ⟨_, _, h, fun ha => ?_⟩
    obtain ⟨hb, h3⟩ := allL_cons ha
    exact ⟨h3, fun P t w G ρ hh => ⟨.int k (a.tmod b), by simp [binOp, Op.intDiv, hb], vint'⟩⟩
  case and => exact ⟨_, _, h, fun ha => ⟨ha, fun P t w G ρ hh => ⟨.int k (bitop .and k a b), by simp [binOp, Op.intBits, bitop], vint'⟩⟩⟩
  case or => exact ⟨_, _, h, fun ha => ⟨ha, fun P t w G ρ hh => ⟨.int k (bitop .or k a b), by simp [binOp, Op.intBits, bitop], vint'⟩⟩⟩
  case xor => exact ⟨_, _, h, fun ha => ⟨ha, fun P t w G ρ hh => ⟨.int k (bitop .xor k a b), by simp [binOp, Op.intBits, bitop], vint'⟩⟩⟩
  case andNot => exact ⟨_, _, h, fun ha => ⟨ha, fun P t w G ρ hh => ⟨.int k (bitop .andNot k a b), by simp [binOp, Op.intBits, bitop], vint'⟩⟩⟩
  case shl => exact h.elim
  case shr => exact h.elim
  case eql => exact ⟨_, _, h, fun ha => ⟨ha, fun P t w G ρ hh => ⟨.bool (decide (a = b)), by simp [binOp, Op.intCmp]; rfl, vbool'⟩⟩⟩
  case neq => exact ⟨_, _, h, fun ha => ⟨ha, fun P t w G ρ hh => ⟨.bool (!decide (a = b)), by simp [binOp, Op.intCmp]; rfl, vbool'⟩⟩⟩
  case lss => exact ⟨_, _, h, fun ha => ⟨ha, fun P t w G ρ hh => ⟨.bool (decide (a < b)), by simp [binOp, Op.intCmp], vbool'⟩⟩⟩
  case leq => exact ⟨_, _, h, fun ha => ⟨ha, fun P t w G ρ hh => ⟨.bool (decide (a ≤ b)), by simp [binOp, Op.intCmp], vbool'⟩⟩⟩
  case gtr => exact ⟨_, _, h, fun ha => ⟨ha, fun P t w G ρ hh => ⟨.bool (decide (a > b)), by simp [binOp, Op.intCmp], vbool'⟩⟩⟩
  case geq => exact ⟨_, _, h, fun ha => ⟨ha, fun P t w G ρ hh => ⟨.bool (decide (a ≥ b)), by simp [binOp, Op.intCmp], vbool'⟩⟩⟩

theorem run_eqGuard_int (op : BinOp) (t : TypeId) (x y : Operand) (k k' : IntKind) (a b : Int) (w : World) : (eqGuard op t x y (.int k a) (.int k' b)).run P w = .ok () w := by
  cases op <;> simp [eqGuard]
theorem run_eqGuard_bool (op : BinOp) (t : TypeId) (x y : Operand) (a b : Bool) (w : World) : (eqGuard op t x y (.bool a) (.bool b)).run P w = .ok () w := by
  cases op <;> simp [eqGuard]

theorem run_eql_bool {t : Nat} {a b : Bool} {w : World} (hu : und P t = some .bool) : (binOp .eql t (.bool a) (.bool b)).run P w = .ok (.bool (a == b)) w := by
  simp only [binOp]
  simp [Op.equal, Op.maxDepth, run_equalIn_bool' w 9999 t a b (und_eq hu)]
theorem run_neq_bool {t : Nat} {a b : Bool} {w : World} (hu : und P t = some .bool) : (binOp .neq t (.bool a) (.bool b)).run P w = .ok (.bool (!(a == b))) w := by
  simp only [binOp]
  simp [Op.equal, Op.maxDepth, run_equalIn_bool' w 9999 t a b (und_eq hu)]
theorem beqBool_eq (a b : Bool) : beqBool a b = (a == b) := by cases a <;> cases b <;> rfl

theorem agg_equal {t : Nat} {fl : List Bool} {xs ys : List PV} {w : World} {G : Nat → Prop} {us vs : Value} {e : Bool} (hfl : eqFlags P 12 t = some fl) (hh : eqHeld P 12 t = true)
    (hx : PRep w G us (.agg xs)) (hy : PRep w G vs (.agg ys))
    (h2 : ∀ w F (us vs : List Value), us.length = xs.length → vs.length = ys.length → (∀ i, i < xs.length → PRep w F (us.getD i undef) (xs.getD i .unit)) → (∀ i, i < ys.length → PRep w F (vs.getD i undef) (ys.getD i .unit)) →
      flagsOK fl us.toArray vs.toArray 0 ∧ fl.length = xs.length ∧ eqR fl.length us.toArray vs.toArray 0 = e)
    (hag : (∃ len el, und P t = some (.array len el)) ∨ ∃ fs, und P t = some (.struct fs)) :
    ∃ us' vs', us = .agg us' ∧ vs = .agg vs' ∧ (Op.equalIn 10000 t us vs).run P w = .ok e w := by
  cases hx with
  | @agg us' _ hl hc =>
    cases hy with
    | @agg vs' _ hl' hc' =>
      obtain ⟨f1, f2, f3⟩ := h2 w G us' vs' hl hl' hc hc'
      refine ⟨_, _, rfl, rfl, ?_⟩
      have := eqA_of hfl hh hag 9988 us'.toArray vs'.toArray w f1
      rw [f3] at this
      exact this

theorem el_binOp {op : BinOp} {t u : Nat} {x y : Operand} {A : Acc} (hA : Sub A s) (h : opK P m A d (.binOp op t x y u) K) : Elim P s (.binOp op t x y u) K := by
  simp only [opK] at h
  obtain ⟨vx, ob1, h1, hs1, hr1⟩ := rduK_elim hA h
  obtain ⟨vy, ob2, h2, hs2, hr2⟩ := rduK_elim hA h1
  split at h2
  · rename_i k a k' b
    have key : cond (kEq k k') (intOp m op k a b ob2 fun v acc => K v none acc) False → Elim P s (.binOp op t x y u) K := by
      intro h3
      simp only [cond_prop] at h3
      split at h3
      · rename_i hk
        have hk := kEq_eq hk
        subst hk
        obtain ⟨v, ob, h3, h4⟩ := intOp_elim h3
        refine ⟨v, none, ob, h3, fun ha dst ty pos af g => .pure fun w0 F0 G ρ aa w R => ?_⟩
        obtain ⟨ha, h5⟩ := h4 ha
        have e1 := vint (hr1 (hs2 ha) w0 F0 G ρ aa w R)
        have e2 := vint (hr2 ha w0 F0 G ρ aa w R)
        obtain ⟨r, h6, h7⟩ := h5 P t w G ρ s.h
        exact ⟨r, by simp only [execOp, e1, e2, Sem.run_bind, run_eqGuard_int, Result.andThen_ok, h6, Sem.run_pure], h7⟩
      · exact h3.elim
    clear h h1
    cases op
    case shl =>
      refine ⟨_, none, _, h2, fun ha dst ty pos af g => .pure fun w0 F0 G ρ aa w R => ?_⟩
      obtain ⟨hb, ha⟩ := allL_cons ha
      have e1 := vint (hr1 (hs2 ha) w0 F0 G ρ aa w R)
      have e2 := vint (hr2 ha w0 F0 G ρ aa w R)
      have : ¬ b < 0 := by omega
      exact ⟨.int k (shlop k a b), by simp only [execOp, e1, e2, Sem.run_bind, run_eqGuard_int, Result.andThen_ok, binOp, Op.shift, this, if_false, shlop, Sem.run_pure], vint'⟩
    case shr =>
      refine ⟨_, none, _, h2, fun ha dst ty pos af g => .pure fun w0 F0 G ρ aa w R => ?_⟩
      obtain ⟨hb, ha⟩ := allL_cons ha
      have e1 := vint (hr1 (hs2 ha) w0 F0 G ρ aa w R)
      have e2 := vint (hr2 ha w0 F0 G ρ aa w R)
      have : ¬ b < 0 := by omega
      exact ⟨.int k (shrop k a b), by simp only [execOp, e1, e2, Sem.run_bind, run_eqGuard_int, Result.andThen_ok, binOp, Op.shift, this, if_false, shrop, Sem.run_pure], vint'⟩
    all_goals exact key h2
  · rename_i a b
    split at h2
    · rename_i hu
      refine ⟨_, none, _, h2, fun ha dst ty pos af g => .pure fun w0 F0 G ρ aa w R => ?_⟩
      have e1 := vbool (hr1 (hs2 ha) w0 F0 G ρ aa w R)
      have e2 := vbool (hr2 ha w0 F0 G ρ aa w R)
      refine ⟨.bool (beqBool a b), ?_, vbool'⟩
      simp only [execOp, e1, e2, Sem.run_bind, run_eqGuard_bool, Result.andThen_ok, run_eql_bool hu, Sem.run_pure, beqBool_eq]
    · rename_i hu
      refine ⟨_, none, _, h2, fun ha dst ty pos af g => .pure fun w0 F0 G ρ aa w R => ?_⟩
      have e1 := vbool (hr1 (hs2 ha) w0 F0 G ρ aa w R)
      have e2 := vbool (hr2 ha w0 F0 G ρ aa w R)
      refine ⟨.bool (!beqBool a b), ?_, vbool'⟩
      simp only [execOp, e1, e2, Sem.run_bind, run_eqGuard_bool, Result.andThen_ok, run_neq_bool hu, Sem.run_pure, beqBool_eq]
    · exact h2.elim
  · rename_i xs ys
    have two : ∀ {u : TypeDesc}, und P t = some u → aggB u = true → (∃ len el, und P t = some (.array len el)) ∨ ∃ fs, und P t = some (.struct fs) := by
      intro u hu ha
      cases u <;> first | exact .inl ⟨_, _, hu⟩ | exact .inr ⟨_, hu⟩ | cases ha
    split at h2
    · rename_i fl u' hfl hu
      simp only [cond_prop] at h2
      split at h2
      · rename_i hagg
        obtain ⟨e, h3, h4⟩ := aggEqK_elim h2
        refine ⟨_, none, _, h3, fun ha dst ty pos af g => .pure fun w0 F0 G ρ aa w R => ?_⟩
        obtain ⟨⟨hh, hg⟩, ha⟩ := allL_cons ha
        have hx := hr1 (hs2 ha) w0 F0 G ρ aa w R
        have hy := hr2 ha w0 F0 G ρ aa w R
        simp only [VRep] at hx hy
        obtain ⟨us, vs, e1, e2, e3⟩ := agg_equal hfl hh hx hy h4 (two hu hagg)
        rw [e1, e2] at e3
        exact ⟨.bool e, by simp only [execOp, e1, e2, Sem.run_bind, run_eqGuard_agg w .eql t x y us vs hg, Result.andThen_ok, run_eql_struct, e3, Sem.run_pure], vbool'⟩
      · exact h2.elim
    · rename_i fl u' hfl hu
      simp only [cond_prop] at h2
      split at h2
      · rename_i hagg
        obtain ⟨e, h3, h4⟩ := aggEqK_elim h2
        refine ⟨_, none, _, h3, fun ha dst ty pos af g => .pure fun w0 F0 G ρ aa w R => ?_⟩
        obtain ⟨⟨hh, hg⟩, ha⟩ := allL_cons ha
        have hx := hr1 (hs2 ha) w0 F0 G ρ aa w R
        have hy := hr2 ha w0 F0 G ρ aa w R
        simp only [VRep] at hx hy
        obtain ⟨us, vs, e1, e2, e3⟩ := agg_equal hfl hh hx hy h4 (two hu hagg)
        rw [e1, e2] at e3
        exact ⟨.bool (!e), by simp only [execOp, e1, e2, Sem.run_bind, run_eqGuard_agg w .neq t x y us vs hg, Result.andThen_ok, run_neq_struct, e3, Sem.run_pure], vbool'⟩
      · exact h2.elim
    · exact h2.elim
  · exact h2.elim

theorem getD_of {α : Type} {l : List α} {i : Nat} {y d : α} (h : l[i]? = some y) : i < l.length ∧ l.getD i d = y := by
  obtain ⟨h1, h2⟩ := List.getElem?_eq_some_iff.1 h
  exact ⟨h1, by rw [List.getD_eq_getElem?_getD, h]; rfl⟩
theorem VReps.get {w : World} {G : Nat → Prop} {ρ : Nat → Option Nat} {h : Nat → Nat × Blk} : ∀ {xs : List V} {vs : List Value}, VReps w G ρ h xs vs → ∀ {i : Nat} {y : V}, xs[i]? = some y → ∃ v, vs[i]? = some v ∧ VRep w G ρ h y v
  | [], vs, hh, i, y, hy => by simp at hy
  | x :: xs, vs, hh, i, y, hy => by
    simp only [VReps] at hh
    obtain ⟨u, us, rfl, h1, h2⟩ := hh
    cases i with
    | zero => simp at hy; subst hy; exact ⟨u, by simp, h1⟩
    | succ i => obtain ⟨v, h3, h4⟩ := VReps.get h2 (i := i) (y := y) (by simpa using hy); exact ⟨v, by simpa using h3, h4⟩

theorem el_extract {x : Operand} {i : Nat} {A : Acc} (hA : Sub A s) (h : opK P m A d (.extract x i) K) : Elim P s (.extract x i) K := by
  obtain ⟨v, ob, h1, _, hr⟩ := rduK_elim hA h
  split at h1
  · rename_i vs
    split at h1
    · rename_i y hy
      rw [getL_eq] at hy
      refine ⟨_, none, ob, h1, fun ha dst ty pos af g => .pure fun w0 F0 G ρ a w R => ?_⟩
      have hx := hr ha w0 F0 G ρ a w R
      simp only [VRep] at hx
      generalize he : a.eval x = xv at hx
      cases hx with
      | @tup us _ hl hc =>
        obtain ⟨h2, h3⟩ := getD_of (d := PV.unit) hy
        have h4 := hc i h2
        rw [h3] at h4
        obtain ⟨v, hv⟩ : ∃ v, us[i]? = some v := ⟨_, List.getElem?_eq_getElem (by omega)⟩
        rw [(getD_of hv).2] at h4
        exact ⟨v, by simp [execOp, he, Instr.extract, hv], by simp only [VRep]; exact h4⟩
    · exact h1.elim
  · rename_i vs
    split at h1
    · rename_i y hy
      rw [getL_eq] at hy
      refine ⟨_, none, ob, h1, fun ha dst ty pos af g => .pure fun w0 F0 G ρ a w R => ?_⟩
      have hx := hr ha w0 F0 G ρ a w R
      simp only [VRep] at hx
      obtain ⟨us, e1, e2⟩ := hx
      obtain ⟨v, h2, h3⟩ := e2.get hy
      exact ⟨v, by simp [execOp, e1, Instr.extract, h2], h3⟩
    · exact h1.elim
  · exact h1.elim

theorem el_makeFunc {fn : Go.Fn} {first caps : Array Operand} {A : Acc} (hA : Sub A s) (h : opK P m A d (.makeFunc fn first caps) K) : Elim P s (.makeFunc fn first caps) K := by
  cases fn with
  | func f =>
    simp only [opK] at h
    split at h
    · rename_i hf
      obtain ⟨vs, ob, h1, _, hr⟩ := rdusK_elim hA h
      refine ⟨_, none, ob, h1, fun ha dst ty pos af g => .pure fun w0 F0 G ρ a w R => ?_⟩
      have hx := hr ha w0 F0 G ρ a w R
      have e1 : first = #[] := by apply Array.ext'; simpa using hf
      subst e1
      refine ⟨.func (.func f) #[] (caps.map a.eval), by simp [execOp, Instr.makeFunc], ?_⟩
      simp only [VRep]
      exact ⟨caps.toList.map a.eval, by congr 1; apply Array.ext'; simp, hx⟩
    · exact h.elim
  | _ => simp only [opK] at h

theorem max2_eq (k k' : IntKind) (a b : Int) : Builtin.max2 (.int k a) (.int k' b) = Pure.pure (Value.int k (max a b)) := by
  simp only [Builtin.max2]
  congr 2
  split <;> omega
theorem maxL_elim : ∀ {vs : List V} {a : Int} {K : Int → Prop}, maxL a vs K → ∃ n, K n ∧ ∀ (P : Program) (k : IntKind) (w : World) (G : Nat → Prop) (ρ : Nat → Option Nat) (h : Nat → Nat × Blk) (us : List Value), VReps w G ρ h vs us →
    (us.foldlM Builtin.max2 (Value.int k a)).run P w = .ok (.int k n) w
  | [], a, K, h => ⟨a, h, fun P k w G ρ h us hu => by simp only [VReps] at hu; subst hu; simp⟩
  | .pv (.int k' b) :: r, a, K, h => by
    simp only [maxL] at h
    obtain ⟨n, h1, h2⟩ := maxL_elim h
    refine ⟨n, h1, fun P k w G ρ h us hu => ?_⟩
    simp only [VReps] at hu
    obtain ⟨u, us', rfl, h3, h4⟩ := hu
    have := vint h3
    subst this
    simp only [List.foldlM_cons, max2_eq, pure_bind]
    exact h2 P k w G ρ h us' h4
theorem el_max {args : Array Operand} {ats : Array TypeId} {A : Acc} (hA : Sub A s) (h : opK P m A d (.call { callee := .builtin .max, args, argTypes := ats }) K) : Elim P s (.call { callee := .builtin .max, args, argTypes := ats }) K := by
  obtain ⟨vs, ob, h1, _, hr⟩ := rdusK_elim hA h
  split at h1
  · rename_i k a r
    obtain ⟨n, h2, h3⟩ := maxL_elim h1
    refine ⟨_, none, ob, h2, fun ha dst ty pos af g => .pure fun w0 F0 G ρ aa w R => ?_⟩
    have hx := hr ha w0 F0 G ρ aa w R
    simp only [VReps] at hx
    obtain ⟨u, us, e1, e2, e3⟩ := hx
    have := vint e2
    subst this
    refine ⟨.int k n, ?_, vint'⟩
    have h5 := h3 P k w G ρ s.h us e3
    simp only [execOp, resolve, pure_bind, invoke, builtin, Builtin.max_, Array.toList_map, e1, Sem.run_bind, h5, Result.andThen_ok, Sem.run_pure]
  · exact h1.elim
theorem min2_eq (k k' : IntKind) (a b : Int) : Builtin.min2 (.int k a) (.int k' b) = Pure.pure (Value.int k (min a b)) := by
  simp only [Builtin.min2]
  congr 2
  split <;> omega
theorem minL_elim : ∀ {vs : List V} {a : Int} {K : Int → Prop}, minL a vs K → ∃ n, K n ∧ ∀ (P : Program) (k : IntKind) (w : World) (G : Nat → Prop) (ρ : Nat → Option Nat) (h : Nat → Nat × Blk) (us : List Value), VReps w G ρ h vs us →
    (us.foldlM Builtin.min2 (Value.int k a)).run P w = .ok (.int k n) w
  | [], a, K, h => ⟨a, h, fun P k w G ρ h us hu => by simp only [VReps] at hu; subst hu; simp⟩
  | .pv (.int k' b) :: r, a, K, h => by
    simp only [minL] at h
    obtain ⟨n, h1, h2⟩ := minL_elim h
    refine ⟨n, h1, fun P k w G ρ h us hu => ?_⟩
    simp only [VReps] at hu
    obtain ⟨u, us', rfl, h3, h4⟩ := hu
    have := vint h3
    subst this
    simp only [List.foldlM_cons, min2_eq, pure_bind]
    exact h2 P k w G ρ h us' h4
theorem el_min {args : Array Operand} {ats : Array TypeId} {A : Acc} (hA : Sub A s) (h : opK P m A d (.call { callee := .builtin .min, args, argTypes := ats }) K) : Elim P s (.call { callee := .builtin .min, args, argTypes := ats }) K := by
  obtain ⟨vs, ob, h1, _, hr⟩ := rdusK_elim hA h
  split at h1
  · rename_i k a r
    obtain ⟨n, h2, h3⟩ := minL_elim h1
    refine ⟨_, none, ob, h2, fun ha dst ty pos af g => .pure fun w0 F0 G ρ aa w R => ?_⟩
    have hx := hr ha w0 F0 G ρ aa w R
    simp only [VReps] at hx
    obtain ⟨u, us, e1, e2, e3⟩ := hx
    have := vint e2
    subst this
    refine ⟨.int k n, ?_, vint'⟩
    have h5 := h3 P k w G ρ s.h us e3
    simp only [execOp, resolve, pure_bind, invoke, builtin, Builtin.min_, Array.toList_map, e1, Sem.run_bind, h5, Result.andThen_ok, Sem.run_pure]
  · exact h1.elim
end
end Abs
