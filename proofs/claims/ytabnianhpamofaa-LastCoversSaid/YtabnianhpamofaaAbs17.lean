/- One operation of a region, its guard looked at; calls by contract; a region in its own order. -/
import Derived.Test.YtabnianhpamofaaAbs16
set_option linter.unusedSectionVars false
set_option linter.unusedSimpArgs false
set_option linter.unusedVariables false
namespace Abs
open Go Go.RowKit
variable [DMode]

section
variable {P : Program} {s : SS} {m : Bool} {d : Option Nat}

theorem allP_iff : ∀ (ps : List Prop), AllP ps ↔ AllL ps
  | [] => ⟨fun _ p hp => (by cases hp), fun _ => trivial⟩
  | [p] => ⟨fun h q hq => (List.mem_singleton.1 hq).symm ▸ h, fun h => h p (by simp)⟩
  | p :: q :: ps => by
    have ih := allP_iff (q :: ps)
    show p ∧ AllP (q :: ps) ↔ _
    rw [ih]
    exact ⟨fun h r hr => (List.mem_cons.1 hr).elim (fun e => by rw [e]; exact h.1) (fun hr => h.2 r hr), fun h => allL_cons h⟩
theorem owe_elim {obs : List Prop} {p : Prop} (h : owe obs p) : AllL obs ∧ p := by
  cases obs with
  | nil => exact ⟨fun q hq => (by cases hq), h⟩
  | cons q qs => exact ⟨(allP_iff _).1 h.1, h.2⟩
theorem addK_elim : ∀ {ob acc : List Prop} {K : List Prop → Prop}, addK ob acc K → ∃ acc', K acc' ∧ (AllL acc' ↔ AllL ob ∧ AllL acc)
  | [], acc, K, h => ⟨acc, h, fun h => ⟨fun q hq => (by cases hq), h⟩, fun h => h.2⟩
  | p :: ps, acc, K, h => by
    obtain ⟨acc', h1, h2⟩ := addK_elim (ob := ps) h
    refine ⟨acc', h1, h2.trans ⟨fun h => ⟨fun q hq => ?_, fun q hq => h.2 q (by simp [hq])⟩, fun h => ⟨fun q hq => h.1 q (by simp [hq]), fun q hq => ?_⟩⟩⟩
    · rcases List.mem_cons.1 hq with rfl | hq
      · exact h.2 _ (by simp)
      · exact h.1 q hq
    · rcases List.mem_cons.1 hq with rfl | hq
      · exact h.1 _ (by simp)
      · exact h.2 q hq
theorem under_elim {b : Bool} {ob : List Prop} (h : AllL (under b ob)) (hb : b = true) : AllL ob := by
  cases ob with
  | nil => exact fun q hq => by cases hq
  | cons p ps =>
    have h1 : b = true → AllP (p :: ps) := h _ (List.mem_singleton.2 rfl)
    exact (allP_iff _).1 (h1 hb)

/-! ### Guards -/
theorem gdK_elim {ops : List Oper} {g : Option (Nat × Bool)} {K : Option Bool → Prop} {A : Acc} (hA : Sub A s) (h : gdK A ops g K) :
    ∃ r, K r ∧ (r = none → g = none) ∧ ∀ b, r = some b → ∃ j want, g = some (j, want) ∧ ∀ w0 F0 G ρ a w, RelX w0 F0 G ρ s a w → (yielded ops.toArray a.tmps j == some want) = b := by
  unfold gdK at h
  split at h
  · exact ⟨none, h, fun _ => rfl, nofun⟩
  · rename_i j want
    split at h
    · rename_i o ho
      split at h
      · rename_i d hd
        have key : ∀ w0 F0 G ρ a w, RelX w0 F0 G ρ s a w → ∀ v : Value, a.tmps.getD d undef = v → yielded ops.toArray a.tmps j = match v with | .bool b => some b | _ => none := by
          intro w0 F0 G ρ a w R v hv
          rw [getL_eq] at ho
          have h0 : ops.toArray[j]? = some o := by simpa using ho
          simp only [yielded, h0, Option.bind_some, hd]
          rw [Array.getD_eq_getD_getElem?] at hv
          cases ht : a.tmps[d]? with
          | none => rw [ht] at hv; subst hv; rfl
          | some x =>
            rw [ht] at hv
            have hv : x = v := hv
            rw [hv]
            cases v <;> rfl
        replace h := hA.rd _ _ h
        rw [show s.acc.rd (.tmp d) = fun K => K (s.t d) from rfl] at h
        dsimp only at h
        split at h
        · rename_i g e
          refine ⟨_, h, nofun, fun b hb => ⟨j, _, rfl, fun w0 F0 G ρ a w R => ?_⟩⟩
          have := R.slot d
          rw [e] at this
          rw [key w0 F0 G ρ a w R _ (vbool this)]
          simp only [Option.some.injEq] at hb; subst hb
          cases g <;> rfl
        · rename_i g e
          refine ⟨_, h, nofun, fun b hb => ⟨j, _, rfl, fun w0 F0 G ρ a w R => ?_⟩⟩
          have := R.slot d
          rw [e] at this
          rw [key w0 F0 G ρ a w R _ (vbool this)]
          simp only [Option.some.injEq] at hb; subst hb
          cases g <;> rfl
        · rename_i g0 g e
          refine ⟨_, h, nofun, fun b hb => ⟨j, _, rfl, fun w0 F0 G ρ a w R => ?_⟩⟩
          have := R.slot d
          rw [e] at this
          simp only [Option.some.injEq] at hb; subst hb
          cases g0 with
          | true =>
            have h2 : VRep w G ρ s.h (.pv (.bool g)) (a.tmps.getD d undef) := by unfold VRep at this; exact this.1 rfl
            rw [key w0 F0 G ρ a w R _ (vbool h2)]
            cases g <;> rfl
          | false =>
            have h2 : a.tmps.getD d undef = undef := by unfold VRep at this; exact this.2 rfl
            rw [key w0 F0 G ρ a w R _ h2]
            rfl
        · rename_i g0 g e
          refine ⟨_, h, nofun, fun b hb => ⟨j, _, rfl, fun w0 F0 G ρ a w R => ?_⟩⟩
          have := R.slot d
          rw [e] at this
          simp only [Option.some.injEq] at hb; subst hb
          cases g0 with
          | true =>
            have h2 : VRep w G ρ s.h (.pv (.bool g)) (a.tmps.getD d undef) := by unfold VRep at this; exact this.1 rfl
            rw [key w0 F0 G ρ a w R _ (vbool h2)]
            cases g <;> rfl
          | false =>
            have h2 : a.tmps.getD d undef = undef := by unfold VRep at this; exact this.2 rfl
            rw [key w0 F0 G ρ a w R _ h2]
            rfl
        · exact h.elim
      · exact h.elim
    · exact h.elim

/-- What is to be shown of an operation in its region. -/
def StepOK (P : Program) (ops : Array Oper) (o : Oper) (s s' : SS) : Prop :=
  ∀ w0 F0 a w, Rel w0 F0 s a w → ∀ (Q : Exit → Act → World → Prop) (N : Act → World → Prop), (∀ a' w', Rel w0 F0 s' a' w' → N a' w') →
    if Region.wanted o (yielded ops a.tmps) then o.wp P a w N Q else N (a.put o.dst undef) w

theorem wp_of_runs {o : Oper} {a : Act} {w w' : World} {x : Value} {N : Act → World → Prop} {Q : Exit → Act → World → Prop} (h : Runs P o a w x w') (hN : N (a.put o.dst x) w') : o.wp P a w N Q := by
  unfold Oper.wp
  rcases h with h | ⟨h, rfl⟩
  · rw [h]; exact hN
  · rw [h]; exact hN

theorem stepOK_op {ops : Array Oper} {o : Oper} {v : V} {u : Option (Nat × Nat × Blk)} (hg : o.guard = none) (h : OpOK P o s v u) : StepOK P ops o s ((s.upd u).put o.dst v) := by
  intro w0 F0 a w ⟨G, ρ, R⟩ Q N hN
  have hw : Region.wanted o (yielded ops a.tmps) = true := by simp [Region.wanted, hg]
  rw [if_pos hw]
  obtain ⟨x, w', G', ρ', h1, h2, h3⟩ := h w0 F0 G ρ a w R
  exact wp_of_runs h1 (hN _ _ ⟨G', ρ', h2.put h3⟩)
theorem stepOK_guarded {ops : List Oper} {o : Oper} {v : V} {b : Bool} {j : Nat} {want : Bool} (hg : o.guard = some (j, want))
    (hy : ∀ w0 F0 G ρ a w, RelX w0 F0 G ρ s a w → (yielded ops.toArray a.tmps j == some want) = b) (h : b = true → OpOK P o s v none) : StepOK P ops.toArray o s (s.put o.dst (.cond b v)) := by
  intro w0 F0 a w ⟨G, ρ, R⟩ Q N hN
  have hw : Region.wanted o (yielded ops.toArray a.tmps) = b := by simp only [Region.wanted, hg]; exact hy w0 F0 G ρ a w R
  rw [hw]
  cases b with
  | true =>
    rw [if_pos rfl]
    obtain ⟨x, w', G', ρ', h1, h2, h3⟩ := h rfl w0 F0 G ρ a w R
    exact wp_of_runs h1 (hN _ _ ⟨G', ρ', RelX.put h2 (by unfold VRep; exact ⟨fun _ => h3, fun e => by cases e⟩)⟩)
  | false =>
    rw [if_neg (by simp)]
    exact hN _ _ ⟨G, ρ, R.put (by unfold VRep; exact ⟨nofun, fun _ => rfl⟩)⟩

/-! ### Calls -/
theorem VReps.append {w : World} {G : Nat → Prop} {ρ : Nat → Option Nat} {h : Nat → Nat × Blk} : ∀ {xs ys : List V} {us vs : List Value}, VReps w G ρ h xs us → VReps w G ρ h ys vs → VReps w G ρ h (xs ++ ys) (us ++ vs)
  | [], ys, us, vs, h1, h2 => by unfold VReps at h1; subst h1; exact h2
  | x :: xs, ys, us, vs, h1, h2 => by
    unfold VReps at h1
    obtain ⟨u, us', rfl, h3, h4⟩ := h1
    show VReps w G ρ h (x :: (xs ++ ys)) (u :: (us' ++ vs))
    unfold VReps
    exact ⟨u, us' ++ vs, rfl, h3, VReps.append h4 h2⟩
theorem vreps_pv {w : World} {G : Nat → Prop} {ρ : Nat → Option Nat} {h : Nat → Nat × Blk} : ∀ {xs : List PV} {us : List Value}, us.length = xs.length → (∀ i, i < xs.length → PRep w G (us.getD i undef) (xs.getD i .unit)) → VReps w G ρ h (xs.map .pv) us
  | [], us, hl, _ => by unfold VReps; exact List.length_eq_zero_iff.1 hl
  | x :: xs, us, hl, hh => by
    cases us with
    | nil => simp at hl
    | cons u us =>
      unfold VReps
      refine ⟨u, us, rfl, ?_, vreps_pv (by simpa using hl) fun i hi => by simpa using hh (i + 1) (by simpa using hi)⟩
      unfold VRep; simpa using hh 0 (by simp)

/-- Whom an operation calls. -/
def Callee (P : Program) (s : SS) (op : Op) (f : FuncId) (vs : List V) : Prop :=
  ∀ w0 F0 G ρ a w, RelX w0 F0 G ρ s a w → ∃ us : List Value, VReps w G ρ s.h vs us ∧ ∀ dst ty pos af g, (execOp a.eval ⟨dst, op, ty, pos, af, g⟩).run P w = (callFunc f us.toArray).run P w
theorem calleeK_elim {op : Op} {K : FuncId → List V → List Prop → Prop} {A : Acc} (hA : Sub A s) (h : calleeK A op K) : ∃ f vs ob, K f vs ob ∧ (AllL ob → Callee P s op f vs) := by
  unfold calleeK at h
  split at h
  · rename_i fo args ats
    obtain ⟨v, ob1, h1, _, hr1⟩ := rduK_elim hA h
    split at h1
    · rename_i f caps
      obtain ⟨vs, ob2, h2, hs2, hr2⟩ := rdusK_elim hA h1
      refine ⟨f, _, ob2, h2, fun ha w0 F0 G ρ a w R => ?_⟩
      have e1 := hr1 (hs2 ha) w0 F0 G ρ a w R
      have e2 := hr2 ha w0 F0 G ρ a w R
      unfold VRep at e1
      generalize he : a.eval fo = fv at e1
      cases e1 with
      | @fn _ cs _ hl hc =>
        refine ⟨args.toList.map a.eval ++ cs, VReps.append e2 (vreps_pv hl hc), fun dst ty pos af g => ?_⟩
        simp only [execOp, resolve, he, Deferred.ofValue, pure_bind, invoke]
        congr 2
        apply Array.ext'
        simp
    · rename_i f caps
      obtain ⟨vs, ob2, h2, hs2, hr2⟩ := rdusK_elim hA h1
      refine ⟨f, _, ob2, h2, fun ha w0 F0 G ρ a w R => ?_⟩
      have e1 := hr1 (hs2 ha) w0 F0 G ρ a w R
      have e2 := hr2 ha w0 F0 G ρ a w R
      unfold VRep at e1
      obtain ⟨cs, he, hc⟩ := e1
      refine ⟨args.toList.map a.eval ++ cs, VReps.append e2 hc, fun dst ty pos af g => ?_⟩
      simp only [execOp, resolve, he, Deferred.ofValue, pure_bind, invoke]
      congr 2
      apply Array.ext'
      simp
    · exact h1.elim
  · exact h.elim

theorem run_enters {f : FuncId} {args : Array Value} {w : World} (h : Enters P f) : (callFunc f args).run P w = .ok (.enter f args) w := by
  obtain ⟨fn, h1, h2, h3⟩ := h
  have h2' : ¬ fn.name = "runtime.NumGoroutine" := by simpa using h2
  have h3' : ¬ fn.body = none := by intro e; rw [e] at h3; cases h3
  simp [callFunc, h1, h2', h3']

theorem wp_of_does {o : Oper} {f : FuncId} {us : List Value} {a : Act} {w : World} {R : Value → World → Prop} {N : Act → World → Prop} {Q : Exit → Act → World → Prop}
    (he : (execOp a.eval o).run P w = (callFunc f us.toArray).run P w) (h : Does P f us.toArray w R) (hN : ∀ v w', R v w' → N (a.put o.dst v) w') : o.wp P a w N Q := by
  unfold Oper.wp
  rw [he]
  rcases h with ⟨h1, h2⟩ | ⟨v, w', h1, h2⟩
  · rw [run_enters h1]
    show Calls P f us.toArray w _
    refine Calls.mono h2 fun e w'' hh => ?_
    obtain ⟨v, rfl, hR⟩ := hh
    exact hN v w'' hR
  · rw [h1]; exact hN v w' h2
end
end Abs
