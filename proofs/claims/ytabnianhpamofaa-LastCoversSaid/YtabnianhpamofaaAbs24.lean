/- Ranges over functions: a round's walk; the rule of the loop. -/
import Derived.Test.YtabnianhpamofaaAbs23
import Derived.RangeFuncCalls
import Derived.RangeFuncGives
set_option linter.unusedSectionVars false
set_option linter.unusedSimpArgs false
set_option linter.unusedVariables false
namespace Abs
open Go Go.RowKit
section
variable [DMode] {P : Program} {l n : Nat}

theorem oper_in {o : Oper} {a : Act} {w : World} {N N' : Act → World → Prop} {Q Q' : Exit → Act → World → Prop} (hd : ∀ c, o.op ≠ .defer c) (hq : ¬ LetsOut Q) (h : o.wp P a w N Q)
    (hN : ∀ ds v w', N (Act.put ⟨a.tmps, ds⟩ o.dst v) w' → N' (Act.put ⟨a.tmps, ds⟩ o.dst v) w') (hQ : ∀ c w', Q (.panic c) a w' → Q' (.panic c) a w') : o.wpIn (Fence.wide.inRound l) n P a w N' Q' := by
  refine ⟨fun _ _ => trivial, ?_⟩
  unfold Oper.wp at h
  rw [Oper.semAt_eq _ _ _ hd]
  generalize (execOp a.eval o).run P w = r at *
  cases r with
  | ok nx w' =>
    cases nx <;> simp only [Oper.upon, Oper.uponIn] at h ⊢
    case value v => exact hN a.defers v w' h
    case skip => exact hN a.defers undef w' h
    case defer d => exact hN (d :: a.defers) undef w' h
    case enter f args =>
      refine ⟨fun e => (by cases e), CallsIn.inRound l (callsIn_wide.2 (Calls.mono h fun e w'' he => ?_))⟩
      cases e with
      | returned v => exact hN a.defers v w'' he
      | panicked c => exact hQ c w'' he
      | outgrown => exact absurd he hq
    case row row args =>
      refine ⟨fun e => (by cases e), fun c cs _ => ?_⟩
      obtain ⟨v, w'', hR, hs⟩ := h c cs
      exact ⟨v, w'', hN a.defers v w'' hR, stepsIn_wide.2 hs⟩
  | halt x w' => cases x <;> simp only [Oper.upon, Oper.uponIn] at h ⊢; exact hQ _ _ h

/-- The slots of a frame that are not named hold what they held. -/
def Pres (ws : List Nat) (a0 a : Act) : Prop := ∀ i, i ∉ ws → a.tmps.getD i undef = a0.tmps.getD i undef
theorem pres_put {ws : List Nat} {a0 a : Act} (h : Pres ws a0 a) {d : Option Nat} (hd : ∀ i, d = some i → i ∈ ws) (v : Value) (ds : List Deferred) : Pres ws a0 (Act.put ⟨a.tmps, ds⟩ d v) := by
  intro i hi
  cases d with
  | none => exact h i hi
  | some d =>
    have hne : i ≠ d := fun e => hi (e ▸ hd d rfl)
    rw [getD_put, if_neg (fun e => hne e.1)]
    exact h i hi

def dstsOf (ops : Array Oper) : List Nat := ops.toList.flatMap fun o => o.dst.toList
theorem dst_mem {ops : Array Oper} {i : Nat} {o : Oper} (h : ops[i]? = some o) : ∀ d, o.dst = some d → d ∈ dstsOf ops := fun d hd => by
  unfold dstsOf
  rw [List.mem_flatMap]
  exact ⟨o, by simpa using Array.mem_of_getElem? h, by simp [hd]⟩

theorem ops_in {ops : Array Oper} {Q : Exit → Act → World → Prop} (hdf : ∀ (i : Nat) (o : Oper), ops[i]? = some o → ∀ c, o.op ≠ .defer c) (hq : ¬ LetsOut Q) {ws : List Nat} (hws : ∀ d ∈ dstsOf ops, d ∈ ws) (a0 : Act) :
    ∀ (is : List Nat) (a : Act) (w : World), Pres ws a0 a → wpOps P ops Q is a w → wpOpsIn (Fence.wide.inRound l) n P ops (fun e a' w' => Q e a' w' ∧ Pres ws a0 a') is a w
  | [], a, w, hp, h => ⟨h, hp⟩
  | i :: is, a, w, hp, h => by
    simp only [wpOps] at h
    simp only [wpOpsIn]
    cases ho : ops[i]? with
    | none =>
      rw [ho] at h
      exact ops_in hdf hq hws a0 is a w hp h
    | some o =>
      rw [ho] at h
      simp only at h ⊢
      have hdst : ∀ d, o.dst = some d → d ∈ ws := fun d hd => hws d (dst_mem ho d hd)
      split
      · rename_i hw
        rw [if_pos hw] at h
        rcases h with h | ⟨_, h⟩
        · exact oper_in (hdf i o ho) hq h (fun ds v w' hN => ops_in hdf hq hws a0 is _ w' (pres_put hp hdst v ds) hN) (fun c w' hQ => ⟨hQ, hp⟩)
        · exact absurd h hq
      · rename_i hw
        rw [if_neg hw] at h
        exact ⟨fun _ _ => trivial, ops_in hdf hq hws a0 is _ w (pres_put hp hdst undef a.defers) h⟩

def isDefer : Op → Bool
  | .defer _ => true
  | _ => false
/-- Code that a round may be made of. -/
def roundOk : Code → Bool
  | .skip => true
  | .region _ ops false => ops.toList.all fun o => !isDefer o.op
  | .seq a b => roundOk a && roundOk b
  | .cond _ a b => roundOk a && roundOk b
  | .block _ b => roundOk b
  | .exit _ => true
  | .label _ => true
  | _ => false
def writes : Code → List Nat
  | .region _ ops _ => dstsOf ops
  | .seq a b => writes a ++ writes b
  | .cond _ a b => writes a ++ writes b
  | .block _ b => writes b
  | _ => []

theorem round_sound (m : Mode) : ∀ (c : Code) (Q : Exit → S → Prop) (s : S), roundOk c = true → W P m c Q s → (∀ s, ¬ Q .outgrown s) → ∀ w0 F0 a w, Rel w0 F0 s.view a w →
    c.wpIn (Fence.wide.inRound l) n P (fun e a' w' => (∃ s', Q e s' ∧ Rel w0 F0 s'.view a' w') ∧ Pres (writes c) a a') a w
  | .skip, Q, s, _, h, _ => fun w0 F0 a w R => wpIn_skip ⟨⟨s, h, R⟩, fun _ _ => rfl⟩
  | .region id ops false, Q, s, hok, h, hq => by
    simp only [W] at h
    obtain ⟨s1, h1, h2⟩ := freezeK_elim h
    intro w0 F0 a w R
    have hdf : ∀ (i : Nat) (o : Oper), ops[i]? = some o → ∀ c, o.op ≠ .defer c := fun i o ho c e => by
      have := List.all_eq_true.1 hok o (by simpa using Array.mem_of_getElem? ho)
      rw [e] at this; cases this
    have := (wops_sound (k := 0) (by simp) h1).2 (h2 w0 F0 a w R) (fun e a' w' => ∃ s', Q e s' ∧ Rel w0 F0 s'.view a' w') (fun s' a' w' hf R' => ⟨s', hf, R'⟩)
    refine wpIn_region ?_
    rw [List.range_eq_range']
    refine ops_in hdf ?_ (fun d hd => hd) a _ a w (fun _ _ => rfl) (by simpa using this)
    rintro ⟨a', w', s', hs, _⟩
    exact hq s' hs
  | .region id ops true, Q, s, hok, _, _ => by simp [roundOk] at hok
  | .seq x y, Q, s, hok, h, hq => fun w0 F0 a w R => by
    simp only [roundOk, Bool.and_eq_true] at hok
    refine wpIn_seq (wpIn_mono (round_sound m x _ s hok.1 h (fun s hs => hq s hs) w0 F0 a w R) fun e a' w' ⟨⟨s', h1, R'⟩, hp⟩ => ?_)
    have hpw : ∀ {b : Act}, Pres (writes y) a' b → Pres (writes (.seq x y)) a b := fun hb i hi => by
      simp only [writes, List.mem_append, not_or] at hi
      rw [hb i hi.2, hp i hi.1]
    cases e with
    | normal => exact wpIn_mono (round_sound m y Q s' hok.2 h1 hq w0 F0 a' w' R') fun e b w'' ⟨h2, h3⟩ => ⟨h2, hpw h3⟩
    | _ => exact ⟨⟨s', h1, R'⟩, hpw fun _ _ => rfl⟩
  | .cond c x y, Q, s, hok, h, hq => fun w0 F0 a w R => by
    simp only [roundOk, Bool.and_eq_true] at hok
    simp only [W] at h
    rw [acc_view] at h
    obtain ⟨v, ob, h1, _, h3⟩ := rduK_elim (.refl _) h
    split at h1
    · rename_i g
      obtain ⟨ho, h1⟩ := owe_elim h1
      obtain ⟨G, ρ, R0⟩ := R
      have he := vbool (h3 ho w0 F0 G ρ a w R0)
      refine wpIn_cond he ?_
      cases g with
      | true => exact wpIn_mono (round_sound m x Q s hok.1 h1 hq w0 F0 a w ⟨G, ρ, R0⟩) fun e b w'' ⟨h2, h3⟩ => ⟨h2, fun i hi => h3 i (fun h => hi (by simp [writes, h]))⟩
      | false => exact wpIn_mono (round_sound m y Q s hok.2 h1 hq w0 F0 a w ⟨G, ρ, R0⟩) fun e b w'' ⟨h2, h3⟩ => ⟨h2, fun i hi => h3 i (fun h => hi (by simp [writes, h]))⟩
    · exact h1.elim
  | .block id c, Q, s, hok, h, hq => fun w0 F0 a w R => by
    refine wpIn_block (wpIn_mono (round_sound m c _ s hok h (fun s hs => hq s hs) w0 F0 a w R) fun e a' w' ⟨⟨s', h1, R'⟩, hp⟩ => ?_)
    cases e with
    | exit i =>
      simp only [cond_prop] at h1
      simp only [Exit.inBlock]
      split at h1
      · rename_i hi
        rw [if_pos (Nat.eq_of_beq_eq_true hi)]; exact ⟨⟨s', h1, R'⟩, hp⟩
      · rename_i hi
        rw [if_neg (fun e => hi (by rw [e]; simp))]; exact ⟨⟨s', h1, R'⟩, hp⟩
    | _ => exact ⟨⟨s', h1, R'⟩, hp⟩
  | .exit id, Q, s, _, h, _ => fun w0 F0 a w R => wpIn_exit ⟨⟨s, h, R⟩, fun _ _ => rfl⟩
  | .label x, Q, s, _, h, _ => fun w0 F0 a w R => wpIn_label ⟨⟨s, h, R⟩, fun _ _ => rfl⟩
  | .loop _, _, _, hok, _, _ => by simp [roundOk] at hok
  | .ret, _, _, hok, _, _ => by simp [roundOk] at hok
  | .goto _, _, _, hok, _, _ => by simp [roundOk] at hok
  | .scope _, _, _, hok, _, _ => by simp [roundOk] at hok
  | .refuse _, _, _, hok, _, _ => by simp [roundOk] at hok
  | .rangeFunc _ _ _ _, _, _, hok, _, _ => by simp [roundOk] at hok
end
end Abs
