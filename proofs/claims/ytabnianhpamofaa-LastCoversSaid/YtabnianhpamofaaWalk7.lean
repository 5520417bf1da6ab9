/- Walks: layer 3, seventh part: the document's valid heads. (Printed by wip/gen_walk7.py.) -/
import Derived.Test.YtabnianhpamofaaWalk4
set_option linter.unusedSectionVars false
set_option linter.unusedSimpArgs false
set_option linter.unusedVariables false
set_option maxRecDepth 100000
set_option maxHeartbeats 4000000
namespace Abs
open Go Go.Proofs
variable [DMode]
theorem anyF5 (p : Nat → Bool) : anyF p 5 = (p 0 || (p 1 || (p 2 || (p 3 || p 4)))) := by
  unfold anyF
  simp only [idxF, Nat.zero_add, Nat.reduceAdd]
  repeat' split
  all_goals simp_all
theorem f38_ok (h : Hd) : Fn Try.prog 38 [h.enc] (.bool h.okb) := by
  have hok : h.okb = (btw 1 h.num 1000000000 && !(!btw 0 h.m0 3000 || (!btw 0 h.m1 3000 || (!btw 0 h.m2 3000 || (!btw 0 h.m3 3000 || !btw 0 h.m4 3000))))) := by
    unfold Hd.okb; rw [anyF5]; rfl
  rw [hok]
  clear hok
  refine fn_of (m := {}) (k := 24) fol Try.func38 rfl rfl ?_
  refine loopN_intro fun I hle hI => ?_
  refine hI _ ?_
  refine ⟨by simp [AllP], ?_⟩
  refine ⟨by simp [AllP, under], ?_⟩
  refine condP (fun c0 => ?_) (fun c0 => ?_)
  · refine congrArg PV.bool ?_
    have c0 : ¬ (0 ≤ h.m0 ∧ h.m0 ≤ 3000) := by
      intro hh; have := c0; simp [cond_true'] at this; omega
    have : btw 0 h.m0 3000 = false := by simp only [btw, cond_false, Bool.and_eq_false_iff, decide_eq_false_iff_not]; omega
    simp [this]
  have d0 : btw 0 h.m0 3000 = true := by
    simp [cond_true'] at c0
    simp [btw, cond_false]; omega
  refine ⟨wrap_small (by decide) (by decide), ?_⟩
  refine hI _ ?_
  refine ⟨by simp [AllP], ?_⟩
  refine ⟨by simp [AllP, under], ?_⟩
  refine condP (fun c1 => ?_) (fun c1 => ?_)
  · refine congrArg PV.bool ?_
    have c1 : ¬ (0 ≤ h.m1 ∧ h.m1 ≤ 3000) := by
      intro hh; have := c1; simp [cond_true'] at this; omega
    have : btw 0 h.m1 3000 = false := by simp only [btw, cond_false, Bool.and_eq_false_iff, decide_eq_false_iff_not]; omega
    simp [this]
  have d1 : btw 0 h.m1 3000 = true := by
    simp [cond_true'] at c1
    simp [btw, cond_false]; omega
  refine ⟨wrap_small (by decide) (by decide), ?_⟩
  refine hI _ ?_
  refine ⟨by simp [AllP], ?_⟩
  refine ⟨by simp [AllP, under], ?_⟩
  refine condP (fun c2 => ?_) (fun c2 => ?_)
  · refine congrArg PV.bool ?_
    have c2 : ¬ (0 ≤ h.m2 ∧ h.m2 ≤ 3000) := by
      intro hh; have := c2; simp [cond_true'] at this; omega
    have : btw 0 h.m2 3000 = false := by simp only [btw, cond_false, Bool.and_eq_false_iff, decide_eq_false_iff_not]; omega
    simp [this]
  have d2 : btw 0 h.m2 3000 = true := by
    simp [cond_true'] at c2
    simp [btw, cond_false]; omega
  refine ⟨wrap_small (by decide) (by decide), ?_⟩
  refine hI _ ?_
  refine ⟨by simp [AllP], ?_⟩
  refine ⟨by simp [AllP, under], ?_⟩
  refine condP (fun c3 => ?_) (fun c3 => ?_)
  · refine congrArg PV.bool ?_
    have c3 : ¬ (0 ≤ h.m3 ∧ h.m3 ≤ 3000) := by
      intro hh; have := c3; simp [cond_true'] at this; omega
    have : btw 0 h.m3 3000 = false := by simp only [btw, cond_false, Bool.and_eq_false_iff, decide_eq_false_iff_not]; omega
    simp [this]
  have d3 : btw 0 h.m3 3000 = true := by
    simp [cond_true'] at c3
    simp [btw, cond_false]; omega
  refine ⟨wrap_small (by decide) (by decide), ?_⟩
  refine hI _ ?_
  refine ⟨by simp [AllP], ?_⟩
  refine ⟨by simp [AllP, under], ?_⟩
  refine condP (fun c4 => ?_) (fun c4 => ?_)
  · refine congrArg PV.bool ?_
    have c4 : ¬ (0 ≤ h.m4 ∧ h.m4 ≤ 3000) := by
      intro hh; have := c4; simp [cond_true'] at this; omega
    have : btw 0 h.m4 3000 = false := by simp only [btw, cond_false, Bool.and_eq_false_iff, decide_eq_false_iff_not]; omega
    simp [this]
  have d4 : btw 0 h.m4 3000 = true := by
    simp [cond_true'] at c4
    simp [btw, cond_false]; omega
  refine ⟨wrap_small (by decide) (by decide), ?_⟩
  refine hI _ ?_
  refine ⟨by simp [AllP, under], ?_⟩
  refine congrArg PV.bool ?_
  rw [d0, d1, d2, d3, d4]
  simp [btw, cond_false]
end Abs
