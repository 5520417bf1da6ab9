/- Walks: layer 3, eighth part: the document's valid sizes. (Printed by wip/gen_walk8.py.) -/
import Derived.Test.YtabnianhpamofaaWalk4
set_option linter.unusedSectionVars false
set_option linter.unusedSimpArgs false
set_option linter.unusedVariables false
set_option maxRecDepth 100000
set_option maxHeartbeats 4000000
namespace Abs
open Go Go.Proofs
variable [DMode]
theorem okR_iff (f t b : Int) : okR f t b = true ↔ (0 ≤ f ∧ f ≤ t ∧ t ≤ 3000 ∧ 0 ≤ b ∧ b ≤ 100) := by simp [okR, btw, cond_false]
theorem f37_ok (s : Sz) : Fn Try.prog 37 [s.enc] (.bool s.okb) := by
  have hok : s.okb = (btw 1 s.code 1000000000 && (btw 0 s.tot 500 && (okR s.f0 s.t0 s.b0 && (okR s.f1 s.t1 s.b1 && (okR s.f2 s.t2 s.b2 && (okR s.f3 s.t3 s.b3 && okR s.f4 s.t4 s.b4)))))) := by
    simp [Sz.okb, Sz.fr]
  rw [hok]
  clear hok
  refine fn_of (m := {}) (k := 62) fol Try.func37 rfl rfl ?_
  refine loopN_intro fun I hle hI => ?_
  have r5 : okR s.f0 s.t0 s.b0 = true → okR s.f1 s.t1 s.b1 = true → okR s.f2 s.t2 s.b2 = true → okR s.f3 s.t3 s.b3 = true → okR s.f4 s.t4 s.b4 = true → stK 63 [(1, .ptr 1 1 0), (2, .pv (.bool false)), (4, .pv (.int .i64 5))] [(1, 1, .cells s.cells)] I := by
    intro d0 d1 d2 d3 d4
    refine hI _ ?_
    refine ⟨by simp [AllP, under], ?_⟩
    refine congrArg PV.bool ?_
    rw [d0, d1, d2, d3, d4]
    simp [btw, cond_false, Bool.and_assoc]
  have r4 : okR s.f0 s.t0 s.b0 = true → okR s.f1 s.t1 s.b1 = true → okR s.f2 s.t2 s.b2 = true → okR s.f3 s.t3 s.b3 = true → stK 63 [(1, .ptr 1 1 0), (2, .pv (.bool false)), (4, .pv (.int .i64 4))] [(1, 1, .cells s.cells)] I := by
    intro d0 d1 d2 d3
    refine hI _ ?_
    iterate 37 (first | refine ⟨_, rfl, _, _, _, ⟨rfl, rfl, rfl⟩, ?_⟩ | refine ⟨_, rfl, _, _, ⟨rfl, rfl, rfl⟩, ?_⟩)
    refine ⟨by decide +kernel, ?_⟩
    refine ⟨by simp [AllP, under], ?_⟩
    refine condP (fun c => ?_) (fun c => ?_)
    · refine congrArg PV.bool ?_
      have : okR s.f4 s.t4 s.b4 = false := by
        refine Bool.eq_false_iff.2 fun h => ?_
        have h := (okR_iff _ _ _).1 h
        simp [cond_true'] at c; omega
      simp [this]
    have d4 : okR s.f4 s.t4 s.b4 = true := by
      refine (okR_iff _ _ _).2 ?_
      simp [cond_true'] at c; omega
    refine ⟨wrap_small (by decide) (by decide), ?_⟩
    refine hle _ _ (le_of ?_) (r5 d0 d1 d2 d3 d4)
    repeat' (first | exact Same.refl _ | exact rfl | refine And.intro ?_ ?_)
  have r3 : okR s.f0 s.t0 s.b0 = true → okR s.f1 s.t1 s.b1 = true → okR s.f2 s.t2 s.b2 = true → stK 63 [(1, .ptr 1 1 0), (2, .pv (.bool false)), (4, .pv (.int .i64 3))] [(1, 1, .cells s.cells)] I := by
    intro d0 d1 d2
    refine hI _ ?_
    iterate 37 (first | refine ⟨_, rfl, _, _, _, ⟨rfl, rfl, rfl⟩, ?_⟩ | refine ⟨_, rfl, _, _, ⟨rfl, rfl, rfl⟩, ?_⟩)
    refine ⟨by decide +kernel, ?_⟩
    refine ⟨by simp [AllP, under], ?_⟩
    refine condP (fun c => ?_) (fun c => ?_)
    · refine congrArg PV.bool ?_
      have : okR s.f3 s.t3 s.b3 = false := by
        refine Bool.eq_false_iff.2 fun h => ?_
        have h := (okR_iff _ _ _).1 h
        simp [cond_true'] at c; omega
      simp [this]
    have d3 : okR s.f3 s.t3 s.b3 = true := by
      refine (okR_iff _ _ _).2 ?_
      simp [cond_true'] at c; omega
    refine ⟨wrap_small (by decide) (by decide), ?_⟩
    refine hle _ _ (le_of ?_) (r4 d0 d1 d2 d3)
    repeat' (first | exact Same.refl _ | exact rfl | refine And.intro ?_ ?_)
  have r2 : okR s.f0 s.t0 s.b0 = true → okR s.f1 s.t1 s.b1 = true → stK 63 [(1, .ptr 1 1 0), (2, .pv (.bool false)), (4, .pv (.int .i64 2))] [(1, 1, .cells s.cells)] I := by
    intro d0 d1
    refine hI _ ?_
    iterate 37 (first | refine ⟨_, rfl, _, _, _, ⟨rfl, rfl, rfl⟩, ?_⟩ | refine ⟨_, rfl, _, _, ⟨rfl, rfl, rfl⟩, ?_⟩)
    refine ⟨by decide +kernel, ?_⟩
    refine ⟨by simp [AllP, under], ?_⟩
    refine condP (fun c => ?_) (fun c => ?_)
    · refine congrArg PV.bool ?_
      have : okR s.f2 s.t2 s.b2 = false := by
        refine Bool.eq_false_iff.2 fun h => ?_
        have h := (okR_iff _ _ _).1 h
        simp [cond_true'] at c; omega
      simp [this]
    have d2 : okR s.f2 s.t2 s.b2 = true := by
      refine (okR_iff _ _ _).2 ?_
      simp [cond_true'] at c; omega
    refine ⟨wrap_small (by decide) (by decide), ?_⟩
    refine hle _ _ (le_of ?_) (r3 d0 d1 d2)
    repeat' (first | exact Same.refl _ | exact rfl | refine And.intro ?_ ?_)
  have r1 : okR s.f0 s.t0 s.b0 = true → stK 63 [(1, .ptr 1 1 0), (2, .pv (.bool false)), (4, .pv (.int .i64 1))] [(1, 1, .cells s.cells)] I := by
    intro d0
    refine hI _ ?_
    iterate 37 (first | refine ⟨_, rfl, _, _, _, ⟨rfl, rfl, rfl⟩, ?_⟩ | refine ⟨_, rfl, _, _, ⟨rfl, rfl, rfl⟩, ?_⟩)
    refine ⟨by decide +kernel, ?_⟩
    refine ⟨by simp [AllP, under], ?_⟩
    refine condP (fun c => ?_) (fun c => ?_)
    · refine congrArg PV.bool ?_
      have : okR s.f1 s.t1 s.b1 = false := by
        refine Bool.eq_false_iff.2 fun h => ?_
        have h := (okR_iff _ _ _).1 h
        simp [cond_true'] at c; omega
      simp [this]
    have d1 : okR s.f1 s.t1 s.b1 = true := by
      refine (okR_iff _ _ _).2 ?_
      simp [cond_true'] at c; omega
    refine ⟨wrap_small (by decide) (by decide), ?_⟩
    refine hle _ _ (le_of ?_) (r2 d0 d1)
    repeat' (first | exact Same.refl _ | exact rfl | refine And.intro ?_ ?_)
  have r0 : stK 63 [(1, .ptr 1 1 0), (2, .pv (.bool false)), (4, .pv (.int .i64 0))] [(1, 1, .cells s.cells)] I := by
    skip
    refine hI _ ?_
    iterate 37 (first | refine ⟨_, rfl, _, _, _, ⟨rfl, rfl, rfl⟩, ?_⟩ | refine ⟨_, rfl, _, _, ⟨rfl, rfl, rfl⟩, ?_⟩)
    refine ⟨by decide +kernel, ?_⟩
    refine ⟨by simp [AllP, under], ?_⟩
    refine condP (fun c => ?_) (fun c => ?_)
    · refine congrArg PV.bool ?_
      have : okR s.f0 s.t0 s.b0 = false := by
        refine Bool.eq_false_iff.2 fun h => ?_
        have h := (okR_iff _ _ _).1 h
        simp [cond_true'] at c; omega
      simp [this]
    have d0 : okR s.f0 s.t0 s.b0 = true := by
      refine (okR_iff _ _ _).2 ?_
      simp [cond_true'] at c; omega
    refine ⟨wrap_small (by decide) (by decide), ?_⟩
    refine hle _ _ (le_of ?_) (r1  d0)
    repeat' (first | exact Same.refl _ | exact rfl | refine And.intro ?_ ?_)
  refine hle _ _ (le_of ?_) r0
  repeat' (first | exact Same.refl _ | exact rfl | refine And.intro ?_ ?_)
end Abs
