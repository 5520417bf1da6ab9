/- Walks: layer 3, fifth part: needs. (Printed by wip/gen_walk5.py.) -/
import Derived.Test.YtabnianhpamofaaWalk4
set_option linter.unusedSectionVars false
set_option linter.unusedSimpArgs false
set_option linter.unusedVariables false
set_option maxRecDepth 100000
set_option maxHeartbeats 4000000
namespace Abs
open Go Go.Proofs
variable [DMode]
def nd (f t m : Int) : Int := max (max (f - m) (m - t)) 0
/-- A size and a head that are right: what the needs' arithmetic asks. -/
structure Bnd (s : Sz) (h : Hd) : Prop where
  f0 : 0 ≤ s.f0 ∧ s.f0 ≤ 3000
  t0 : 0 ≤ s.t0 ∧ s.t0 ≤ 3000
  m0 : 0 ≤ h.m0 ∧ h.m0 ≤ 3000
  f1 : 0 ≤ s.f1 ∧ s.f1 ≤ 3000
  t1 : 0 ≤ s.t1 ∧ s.t1 ≤ 3000
  m1 : 0 ≤ h.m1 ∧ h.m1 ≤ 3000
  f2 : 0 ≤ s.f2 ∧ s.f2 ≤ 3000
  t2 : 0 ≤ s.t2 ∧ s.t2 ≤ 3000
  m2 : 0 ≤ h.m2 ∧ h.m2 ≤ 3000
  f3 : 0 ≤ s.f3 ∧ s.f3 ≤ 3000
  t3 : 0 ≤ s.t3 ∧ s.t3 ≤ 3000
  m3 : 0 ≤ h.m3 ∧ h.m3 ≤ 3000
  f4 : 0 ≤ s.f4 ∧ s.f4 ≤ 3000
  t4 : 0 ≤ s.t4 ∧ s.t4 ≤ 3000
  m4 : 0 ≤ h.m4 ∧ h.m4 ≤ 3000
def needA (s : Sz) (h : Hd) : PV := .agg [.int .i64 (nd s.f0 s.t0 h.m0), .int .i64 (nd s.f1 s.t1 h.m1), .int .i64 (nd s.f2 s.t2 h.m2), .int .i64 (nd s.f3 s.t3 h.m3), .int .i64 (nd s.f4 s.t4 h.m4)]
def needS (s : Sz) (h : Hd) : Int := 0 + nd s.f0 s.t0 h.m0 + nd s.f1 s.t1 h.m1 + nd s.f2 s.t2 h.m2 + nd s.f3 s.t3 h.m3 + nd s.f4 s.t4 h.m4

theorem f20_ok (s : Sz) (h : Hd) (hb : Bnd s h) : Fn Try.prog 20 [s.enc, h.enc] (.tup [needA s h, .int .i64 (needS s h)]) := by
  have f0 := hb.f0
  have t0 := hb.t0
  have m0 := hb.m0
  have n0 : 0 ≤ max (max (s.f0 - h.m0) (h.m0 - s.t0)) 0 ∧ max (max (s.f0 - h.m0) (h.m0 - s.t0)) 0 ≤ 3000 := by omega
  have f1 := hb.f1
  have t1 := hb.t1
  have m1 := hb.m1
  have n1 : 0 ≤ max (max (s.f1 - h.m1) (h.m1 - s.t1)) 0 ∧ max (max (s.f1 - h.m1) (h.m1 - s.t1)) 0 ≤ 3000 := by omega
  have f2 := hb.f2
  have t2 := hb.t2
  have m2 := hb.m2
  have n2 : 0 ≤ max (max (s.f2 - h.m2) (h.m2 - s.t2)) 0 ∧ max (max (s.f2 - h.m2) (h.m2 - s.t2)) 0 ≤ 3000 := by omega
  have f3 := hb.f3
  have t3 := hb.t3
  have m3 := hb.m3
  have n3 : 0 ≤ max (max (s.f3 - h.m3) (h.m3 - s.t3)) 0 ∧ max (max (s.f3 - h.m3) (h.m3 - s.t3)) 0 ≤ 3000 := by omega
  have f4 := hb.f4
  have t4 := hb.t4
  have m4 := hb.m4
  have n4 : 0 ≤ max (max (s.f4 - h.m4) (h.m4 - s.t4)) 0 ∧ max (max (s.f4 - h.m4) (h.m4 - s.t4)) 0 ≤ 3000 := by omega
  refine fn_of (m := {}) (k := 37) fol Try.func20 rfl rfl ?_
  refine loopN_intro fun I hle hI => ?_
  refine hI _ ?_
  refine ⟨by simp [AllP], ?_⟩
  iterate 15 refine ⟨_, rfl, _, _, _, ⟨rfl, rfl, rfl⟩, ?_⟩
  refine ⟨_, rfl, _, _, _, ⟨rfl, rfl, rfl⟩, ?_⟩
  refine ⟨by decide +kernel, ?_⟩
  refine ⟨?_, ?_⟩
  · simp only [AllP, IntKind.wrap_i64]; omega
  refine ⟨?_, ?_⟩
  · generalize max (max (s.f0 - h.m0) (h.m0 - s.t0)) 0 = x0 at n0 ⊢; refine ⟨wrap_small ?_ ?_, by simp [AllP]⟩ <;> omega
  refine ⟨wrap_small (by decide) (by decide), ?_⟩
  refine hI _ ?_
  refine ⟨by simp [AllP], ?_⟩
  iterate 15 refine ⟨_, rfl, _, _, _, ⟨rfl, rfl, rfl⟩, ?_⟩
  refine ⟨_, rfl, _, _, _, ⟨rfl, rfl, rfl⟩, ?_⟩
  refine ⟨by decide +kernel, ?_⟩
  refine ⟨?_, ?_⟩
  · simp only [AllP, IntKind.wrap_i64]; omega
  refine ⟨?_, ?_⟩
  · generalize max (max (s.f0 - h.m0) (h.m0 - s.t0)) 0 = x0 at n0 ⊢; generalize max (max (s.f1 - h.m1) (h.m1 - s.t1)) 0 = x1 at n1 ⊢; refine ⟨wrap_small ?_ ?_, by simp [AllP]⟩ <;> omega
  refine ⟨wrap_small (by decide) (by decide), ?_⟩
  refine hI _ ?_
  refine ⟨by simp [AllP], ?_⟩
  iterate 15 refine ⟨_, rfl, _, _, _, ⟨rfl, rfl, rfl⟩, ?_⟩
  refine ⟨_, rfl, _, _, _, ⟨rfl, rfl, rfl⟩, ?_⟩
  refine ⟨by decide +kernel, ?_⟩
  refine ⟨?_, ?_⟩
  · simp only [AllP, IntKind.wrap_i64]; omega
  refine ⟨?_, ?_⟩
  · generalize max (max (s.f0 - h.m0) (h.m0 - s.t0)) 0 = x0 at n0 ⊢; generalize max (max (s.f1 - h.m1) (h.m1 - s.t1)) 0 = x1 at n1 ⊢; generalize max (max (s.f2 - h.m2) (h.m2 - s.t2)) 0 = x2 at n2 ⊢; refine ⟨wrap_small ?_ ?_, by simp [AllP]⟩ <;> omega
  refine ⟨wrap_small (by decide) (by decide), ?_⟩
  refine hI _ ?_
  refine ⟨by simp [AllP], ?_⟩
  iterate 15 refine ⟨_, rfl, _, _, _, ⟨rfl, rfl, rfl⟩, ?_⟩
  refine ⟨_, rfl, _, _, _, ⟨rfl, rfl, rfl⟩, ?_⟩
  refine ⟨by decide +kernel, ?_⟩
  refine ⟨?_, ?_⟩
  · simp only [AllP, IntKind.wrap_i64]; omega
  refine ⟨?_, ?_⟩
  · generalize max (max (s.f0 - h.m0) (h.m0 - s.t0)) 0 = x0 at n0 ⊢; generalize max (max (s.f1 - h.m1) (h.m1 - s.t1)) 0 = x1 at n1 ⊢; generalize max (max (s.f2 - h.m2) (h.m2 - s.t2)) 0 = x2 at n2 ⊢; generalize max (max (s.f3 - h.m3) (h.m3 - s.t3)) 0 = x3 at n3 ⊢; refine ⟨wrap_small ?_ ?_, by simp [AllP]⟩ <;> omega
  refine ⟨wrap_small (by decide) (by decide), ?_⟩
  refine hI _ ?_
  refine ⟨by simp [AllP], ?_⟩
  iterate 15 refine ⟨_, rfl, _, _, _, ⟨rfl, rfl, rfl⟩, ?_⟩
  refine ⟨_, rfl, _, _, _, ⟨rfl, rfl, rfl⟩, ?_⟩
  refine ⟨by decide +kernel, ?_⟩
  refine ⟨?_, ?_⟩
  · simp only [AllP, IntKind.wrap_i64]; omega
  refine ⟨?_, ?_⟩
  · generalize max (max (s.f0 - h.m0) (h.m0 - s.t0)) 0 = x0 at n0 ⊢; generalize max (max (s.f1 - h.m1) (h.m1 - s.t1)) 0 = x1 at n1 ⊢; generalize max (max (s.f2 - h.m2) (h.m2 - s.t2)) 0 = x2 at n2 ⊢; generalize max (max (s.f3 - h.m3) (h.m3 - s.t3)) 0 = x3 at n3 ⊢; generalize max (max (s.f4 - h.m4) (h.m4 - s.t4)) 0 = x4 at n4 ⊢; refine ⟨wrap_small ?_ ?_, by simp [AllP]⟩ <;> omega
  refine ⟨wrap_small (by decide) (by decide), ?_⟩
  refine hI _ ?_
  exact ⟨⟨rfl, rfl, rfl, rfl, rfl⟩, rfl⟩

theorem f22_ok (s : Sz) (h : Hd) (hb : Bnd s h) : Fn Try.prog 22 [s.enc, h.enc] (.tup [needA s h, .int .i64 (needS s h)]) := by
  have f0 := hb.f0
  have t0 := hb.t0
  have m0 := hb.m0
  have n0 : 0 ≤ max (max (s.f0 - h.m0) (h.m0 - s.t0)) 0 ∧ max (max (s.f0 - h.m0) (h.m0 - s.t0)) 0 ≤ 3000 := by omega
  have f1 := hb.f1
  have t1 := hb.t1
  have m1 := hb.m1
  have n1 : 0 ≤ max (max (s.f1 - h.m1) (h.m1 - s.t1)) 0 ∧ max (max (s.f1 - h.m1) (h.m1 - s.t1)) 0 ≤ 3000 := by omega
  have f2 := hb.f2
  have t2 := hb.t2
  have m2 := hb.m2
  have n2 : 0 ≤ max (max (s.f2 - h.m2) (h.m2 - s.t2)) 0 ∧ max (max (s.f2 - h.m2) (h.m2 - s.t2)) 0 ≤ 3000 := by omega
  have f3 := hb.f3
  have t3 := hb.t3
  have m3 := hb.m3
  have n3 : 0 ≤ max (max (s.f3 - h.m3) (h.m3 - s.t3)) 0 ∧ max (max (s.f3 - h.m3) (h.m3 - s.t3)) 0 ≤ 3000 := by omega
  have f4 := hb.f4
  have t4 := hb.t4
  have m4 := hb.m4
  have n4 : 0 ≤ max (max (s.f4 - h.m4) (h.m4 - s.t4)) 0 ∧ max (max (s.f4 - h.m4) (h.m4 - s.t4)) 0 ≤ 3000 := by omega
  refine fn_of (m := {}) (k := 37) fol Try.func22 rfl rfl ?_
  refine loopN_intro fun I hle hI => ?_
  refine hI _ ?_
  refine ⟨by simp [AllP], ?_⟩
  iterate 15 refine ⟨_, rfl, _, _, _, ⟨rfl, rfl, rfl⟩, ?_⟩
  refine ⟨_, rfl, _, _, _, ⟨rfl, rfl, rfl⟩, ?_⟩
  refine ⟨by decide +kernel, ?_⟩
  refine ⟨?_, ?_⟩
  · simp only [AllP, IntKind.wrap_i64]; omega
  refine ⟨?_, ?_⟩
  · generalize max (max (s.f0 - h.m0) (h.m0 - s.t0)) 0 = x0 at n0 ⊢; refine ⟨wrap_small ?_ ?_, by simp [AllP]⟩ <;> omega
  refine ⟨wrap_small (by decide) (by decide), ?_⟩
  refine hI _ ?_
  refine ⟨by simp [AllP], ?_⟩
  iterate 15 refine ⟨_, rfl, _, _, _, ⟨rfl, rfl, rfl⟩, ?_⟩
  refine ⟨_, rfl, _, _, _, ⟨rfl, rfl, rfl⟩, ?_⟩
  refine ⟨by decide +kernel, ?_⟩
  refine ⟨?_, ?_⟩
  · simp only [AllP, IntKind.wrap_i64]; omega
  refine ⟨?_, ?_⟩
  · generalize max (max (s.f0 - h.m0) (h.m0 - s.t0)) 0 = x0 at n0 ⊢; generalize max (max (s.f1 - h.m1) (h.m1 - s.t1)) 0 = x1 at n1 ⊢; refine ⟨wrap_small ?_ ?_, by simp [AllP]⟩ <;> omega
  refine ⟨wrap_small (by decide) (by decide), ?_⟩
  refine hI _ ?_
  refine ⟨by simp [AllP], ?_⟩
  iterate 15 refine ⟨_, rfl, _, _, _, ⟨rfl, rfl, rfl⟩, ?_⟩
  refine ⟨_, rfl, _, _, _, ⟨rfl, rfl, rfl⟩, ?_⟩
  refine ⟨by decide +kernel, ?_⟩
  refine ⟨?_, ?_⟩
  · simp only [AllP, IntKind.wrap_i64]; omega
  refine ⟨?_, ?_⟩
  · generalize max (max (s.f0 - h.m0) (h.m0 - s.t0)) 0 = x0 at n0 ⊢; generalize max (max (s.f1 - h.m1) (h.m1 - s.t1)) 0 = x1 at n1 ⊢; generalize max (max (s.f2 - h.m2) (h.m2 - s.t2)) 0 = x2 at n2 ⊢; refine ⟨wrap_small ?_ ?_, by simp [AllP]⟩ <;> omega
  refine ⟨wrap_small (by decide) (by decide), ?_⟩
  refine hI _ ?_
  refine ⟨by simp [AllP], ?_⟩
  iterate 15 refine ⟨_, rfl, _, _, _, ⟨rfl, rfl, rfl⟩, ?_⟩
  refine ⟨_, rfl, _, _, _, ⟨rfl, rfl, rfl⟩, ?_⟩
  refine ⟨by decide +kernel, ?_⟩
  refine ⟨?_, ?_⟩
  · simp only [AllP, IntKind.wrap_i64]; omega
  refine ⟨?_, ?_⟩
  · generalize max (max (s.f0 - h.m0) (h.m0 - s.t0)) 0 = x0 at n0 ⊢; generalize max (max (s.f1 - h.m1) (h.m1 - s.t1)) 0 = x1 at n1 ⊢; generalize max (max (s.f2 - h.m2) (h.m2 - s.t2)) 0 = x2 at n2 ⊢; generalize max (max (s.f3 - h.m3) (h.m3 - s.t3)) 0 = x3 at n3 ⊢; refine ⟨wrap_small ?_ ?_, by simp [AllP]⟩ <;> omega
  refine ⟨wrap_small (by decide) (by decide), ?_⟩
  refine hI _ ?_
  refine ⟨by simp [AllP], ?_⟩
  iterate 15 refine ⟨_, rfl, _, _, _, ⟨rfl, rfl, rfl⟩, ?_⟩
  refine ⟨_, rfl, _, _, _, ⟨rfl, rfl, rfl⟩, ?_⟩
  refine ⟨by decide +kernel, ?_⟩
  refine ⟨?_, ?_⟩
  · simp only [AllP, IntKind.wrap_i64]; omega
  refine ⟨?_, ?_⟩
  · generalize max (max (s.f0 - h.m0) (h.m0 - s.t0)) 0 = x0 at n0 ⊢; generalize max (max (s.f1 - h.m1) (h.m1 - s.t1)) 0 = x1 at n1 ⊢; generalize max (max (s.f2 - h.m2) (h.m2 - s.t2)) 0 = x2 at n2 ⊢; generalize max (max (s.f3 - h.m3) (h.m3 - s.t3)) 0 = x3 at n3 ⊢; generalize max (max (s.f4 - h.m4) (h.m4 - s.t4)) 0 = x4 at n4 ⊢; refine ⟨wrap_small ?_ ?_, by simp [AllP]⟩ <;> omega
  refine ⟨wrap_small (by decide) (by decide), ?_⟩
  refine hI _ ?_
  exact ⟨⟨rfl, rfl, rfl, rfl, rfl⟩, rfl⟩
end Abs
