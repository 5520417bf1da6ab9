/- Walks: sizes and heads of layer 3, second part: a size is right. (Printed by wip/gen_walk2.py.) -/
import Derived.Test.YtabnianhpamofaaWalk1
set_option linter.unusedSectionVars false
set_option linter.unusedSimpArgs false
set_option linter.unusedVariables false
set_option maxRecDepth 100000
set_option maxHeartbeats 4000000
namespace Abs
open Go Go.Proofs
variable [DMode]
theorem cond_false (a b : Bool) : (cond a b false) = (a && b) := by cases a <;> rfl
theorem cond_true' (a b : Bool) : (cond a true b) = (a || b) := by cases a <;> rfl
def okR (f t b : Int) : Bool := decide (0 ≤ f) && (decide (f ≤ t) && (decide (t ≤ 3000) && btw 0 b 100))
def Sz.cells (s : Sz) : List V := [.pv (.int .i64 s.code), .pv (.int .i64 s.f0), .pv (.int .i64 s.f1), .pv (.int .i64 s.f2), .pv (.int .i64 s.f3), .pv (.int .i64 s.f4), .pv (.int .i64 s.t0), .pv (.int .i64 s.t1), .pv (.int .i64 s.t2), .pv (.int .i64 s.t3), .pv (.int .i64 s.t4),
  .pv (.int .i64 s.b0), .pv (.int .i64 s.b1), .pv (.int .i64 s.b2), .pv (.int .i64 s.b3), .pv (.int .i64 s.b4), .pv (.int .i64 s.tot)]
/-- The rows from the i-th on are right. -/
def Sz.fr (s : Sz) : Nat → Bool
  | 0 => okR s.f0 s.t0 s.b0 && s.fr 1
  | 1 => okR s.f1 s.t1 s.b1 && s.fr 2
  | 2 => okR s.f2 s.t2 s.b2 && s.fr 3
  | 3 => okR s.f3 s.t3 s.b3 && s.fr 4
  | 4 => okR s.f4 s.t4 s.b4
  | _ => true
termination_by i => 5 - i
def Sz.okb (s : Sz) : Bool := btw 1 s.code 1000000000 && (btw 0 s.tot 500 && s.fr 0)

theorem f26_ok (s : Sz) : Fn Try.prog 26 [s.enc] (.bool s.okb) := by
  refine fn_of (m := {}) (k := 50) fol Try.func26 rfl rfl ?_
  refine callN_pure _ _ _ ⟨rfl, rfl⟩ (f27_ok _ _ _) rfl ?_
  refine ⟨_, fun _ => f27_ok _ _ _, ?_⟩
  refine ⟨by simp [AllP], ?_⟩
  refine loopN_intro fun I hle hI => ?_
  have r5 : ∀ o, (o && s.fr 5) = s.okb → stK 51 [(1, .ptr 1 1 0), (2, .pv (.bool false)), (3, .pv (.bool o)), (13, .pv (.int .i64 5))] [(1, 1, .cells s.cells)] I := by
    intro o ho
    refine hI _ ?_
    refine congrArg PV.bool ?_
    rw [← ho]; simp [Sz.fr]
  have r4 : ∀ o, (o && s.fr 4) = s.okb → stK 51 [(1, .ptr 1 1 0), (2, .pv (.bool false)), (3, .pv (.bool o)), (13, .pv (.int .i64 4))] [(1, 1, .cells s.cells)] I := by
    intro o ho
    refine hI _ ?_
    iterate 33 (first | refine ⟨_, rfl, _, _, _, ⟨rfl, rfl, rfl⟩, ?_⟩ | refine ⟨_, rfl, _, _, ⟨rfl, rfl, rfl⟩, ?_⟩ | refine ⟨_, rfl, _, _, ⟨_, fun _ => f27_ok _ _ _, rfl, rfl⟩, ?_⟩)
    refine ⟨_, rfl, _, _, _, ⟨rfl, rfl, rfl⟩, ?_⟩
    refine ⟨by decide +kernel, ?_⟩
    refine ⟨by simp [AllP, under], ?_⟩
    refine ⟨wrap_small (by decide) (by decide), ?_⟩
    refine hle _ _ (le_of ?le4) (r5 ?o4 ?h4)
    case le4 => repeat' (first | exact Same.refl _ | exact rfl | refine And.intro ?_ ?_)
    case h4 => rw [← ho]; simp only [Sz.fr, okR, cond_false, Bool.and_assoc, Bool.and_true]
  have r3 : ∀ o, (o && s.fr 3) = s.okb → stK 51 [(1, .ptr 1 1 0), (2, .pv (.bool false)), (3, .pv (.bool o)), (13, .pv (.int .i64 3))] [(1, 1, .cells s.cells)] I := by
    intro o ho
    refine hI _ ?_
    iterate 33 (first | refine ⟨_, rfl, _, _, _, ⟨rfl, rfl, rfl⟩, ?_⟩ | refine ⟨_, rfl, _, _, ⟨rfl, rfl, rfl⟩, ?_⟩ | refine ⟨_, rfl, _, _, ⟨_, fun _ => f27_ok _ _ _, rfl, rfl⟩, ?_⟩)
    refine ⟨_, rfl, _, _, _, ⟨rfl, rfl, rfl⟩, ?_⟩
    refine ⟨by decide +kernel, ?_⟩
    refine ⟨by simp [AllP, under], ?_⟩
    refine ⟨wrap_small (by decide) (by decide), ?_⟩
    refine hle _ _ (le_of ?le3) (r4 ?o3 ?h3)
    case le3 => repeat' (first | exact Same.refl _ | exact rfl | refine And.intro ?_ ?_)
    case h3 => rw [← ho]; simp only [Sz.fr, okR, cond_false, Bool.and_assoc, Bool.and_true]
  have r2 : ∀ o, (o && s.fr 2) = s.okb → stK 51 [(1, .ptr 1 1 0), (2, .pv (.bool false)), (3, .pv (.bool o)), (13, .pv (.int .i64 2))] [(1, 1, .cells s.cells)] I := by
    intro o ho
    refine hI _ ?_
    iterate 33 (first | refine ⟨_, rfl, _, _, _, ⟨rfl, rfl, rfl⟩, ?_⟩ | refine ⟨_, rfl, _, _, ⟨rfl, rfl, rfl⟩, ?_⟩ | refine ⟨_, rfl, _, _, ⟨_, fun _ => f27_ok _ _ _, rfl, rfl⟩, ?_⟩)
    refine ⟨_, rfl, _, _, _, ⟨rfl, rfl, rfl⟩, ?_⟩
    refine ⟨by decide +kernel, ?_⟩
    refine ⟨by simp [AllP, under], ?_⟩
    refine ⟨wrap_small (by decide) (by decide), ?_⟩
    refine hle _ _ (le_of ?le2) (r3 ?o2 ?h2)
    case le2 => repeat' (first | exact Same.refl _ | exact rfl | refine And.intro ?_ ?_)
    case h2 => rw [← ho]; simp only [Sz.fr, okR, cond_false, Bool.and_assoc, Bool.and_true]
  have r1 : ∀ o, (o && s.fr 1) = s.okb → stK 51 [(1, .ptr 1 1 0), (2, .pv (.bool false)), (3, .pv (.bool o)), (13, .pv (.int .i64 1))] [(1, 1, .cells s.cells)] I := by
    intro o ho
    refine hI _ ?_
    iterate 33 (first | refine ⟨_, rfl, _, _, _, ⟨rfl, rfl, rfl⟩, ?_⟩ | refine ⟨_, rfl, _, _, ⟨rfl, rfl, rfl⟩, ?_⟩ | refine ⟨_, rfl, _, _, ⟨_, fun _ => f27_ok _ _ _, rfl, rfl⟩, ?_⟩)
    refine ⟨_, rfl, _, _, _, ⟨rfl, rfl, rfl⟩, ?_⟩
    refine ⟨by decide +kernel, ?_⟩
    refine ⟨by simp [AllP, under], ?_⟩
    refine ⟨wrap_small (by decide) (by decide), ?_⟩
    refine hle _ _ (le_of ?le1) (r2 ?o1 ?h1)
    case le1 => repeat' (first | exact Same.refl _ | exact rfl | refine And.intro ?_ ?_)
    case h1 => rw [← ho]; simp only [Sz.fr, okR, cond_false, Bool.and_assoc, Bool.and_true]
  have r0 : ∀ o, (o && s.fr 0) = s.okb → stK 51 [(1, .ptr 1 1 0), (2, .pv (.bool false)), (3, .pv (.bool o)), (13, .pv (.int .i64 0))] [(1, 1, .cells s.cells)] I := by
    intro o ho
    refine hI _ ?_
    iterate 33 (first | refine ⟨_, rfl, _, _, _, ⟨rfl, rfl, rfl⟩, ?_⟩ | refine ⟨_, rfl, _, _, ⟨rfl, rfl, rfl⟩, ?_⟩ | refine ⟨_, rfl, _, _, ⟨_, fun _ => f27_ok _ _ _, rfl, rfl⟩, ?_⟩)
    refine ⟨_, rfl, _, _, _, ⟨rfl, rfl, rfl⟩, ?_⟩
    refine ⟨by decide +kernel, ?_⟩
    refine ⟨by simp [AllP, under], ?_⟩
    refine ⟨wrap_small (by decide) (by decide), ?_⟩
    refine hle _ _ (le_of ?le0) (r1 ?o0 ?h0)
    case le0 => repeat' (first | exact Same.refl _ | exact rfl | refine And.intro ?_ ?_)
    case h0 => rw [← ho]; simp only [Sz.fr, okR, cond_false, Bool.and_assoc, Bool.and_true]
  refine hle _ _ (le_of ?le) (r0 ?o ?h)
  case le => repeat' (first | exact Same.refl _ | exact rfl | refine And.intro ?_ ?_)
  case h => simp only [Sz.okb, cond_false, Bool.and_assoc]
end Abs
