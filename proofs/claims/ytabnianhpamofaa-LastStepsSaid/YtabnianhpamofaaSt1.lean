/- Walks: layer 3: grading. -/
import Derived.Test.YtabnianhpamofaaWalk12
set_option linter.unusedSectionVars false
set_option linter.unusedSimpArgs false
set_option linter.unusedVariables false
set_option maxRecDepth 100000
set_option maxHeartbeats 4000000
namespace Abs
open Go Go.Proofs
variable [DMode]
/-- A step of five measures. -/
structure Stp where
  d0 : Int
  d1 : Int
  d2 : Int
  d3 : Int
  d4 : Int
def Stp.enc (t : Stp) : PV := .agg [.int .i64 t.d0, .int .i64 t.d1, .int .i64 t.d2, .int .i64 t.d3, .int .i64 t.d4]
def Stp.okb (t : Stp) (n : Int) : Bool := btw (-20) n 20 && btw (-300) t.d0 300 && btw (-300) t.d1 300 && btw (-300) t.d2 300 && btw (-300) t.d3 300 && btw (-300) t.d4 300
def up (s : Sz) (t : Stp) (n : Int) : Sz := { s with code := s.code + n, f0 := s.f0 + n * t.d0, f1 := s.f1 + n * t.d1, f2 := s.f2 + n * t.d2, f3 := s.f3 + n * t.d3, f4 := s.f4 + n * t.d4, t0 := s.t0 + n * t.d0, t1 := s.t1 + n * t.d1, t2 := s.t2 + n * t.d2, t3 := s.t3 + n * t.d3, t4 := s.t4 + n * t.d4 }
def Sz.zero : Sz := ⟨0, 0, 0, 0, 0, 0, 0, 0, 0, 0, 0, 0, 0, 0, 0, 0, 0⟩
@[irreducible] def gradeE (s : Sz) (t : Stp) (n : Int) : Int := if s.okb then (if t.okb n then (if (up s t n).okb then 0 else 2) else 2) else 31
@[irreducible] def gradeS (s : Sz) (t : Stp) (n : Int) : Sz := if s.okb && (t.okb n && (up s t n).okb) then up s t n else Sz.zero
theorem grade_res (s : Sz) (t : Stp) (n : Int) (e : Int) (z : Sz) (he : gradeE s t n = e) (hz : gradeS s t n = z) : (PV.tup [(gradeS s t n).enc, .int .i64 (gradeE s t n)]) = .tup [z.enc, .int .i64 e] := by rw [he, hz]
theorem mul_bnd {n d : Int} (h1 : -20 ≤ n) (h2 : n ≤ 20) (h3 : -300 ≤ d) (h4 : d ≤ 300) : -6000 ≤ n * d ∧ n * d ≤ 6000 := by
  have a1 := Int.mul_le_mul_of_nonneg_left (c := n + 20) h4 (by omega)
  have a2 := Int.mul_le_mul_of_nonneg_left (c := n + 20) h3 (by omega)
  have e1 : (n + 20) * d = n * d + 20 * d := Int.add_mul ..
  have e2 : (n + 20) * 300 = n * 300 + 20 * 300 := Int.add_mul ..
  have e3 : (n + 20) * (-300) = n * (-300) + 20 * (-300) := Int.add_mul ..
  have b1 := Int.mul_le_mul_of_nonneg_left (c := 20 - n) h4 (by omega)
  have b2 := Int.mul_le_mul_of_nonneg_left (c := 20 - n) h3 (by omega)
  have e4 : (20 - n) * d = 20 * d - n * d := Int.sub_mul ..
  have e5 : (20 - n) * 300 = 20 * 300 - n * 300 := Int.sub_mul ..
  have e6 : (20 - n) * (-300) = 20 * (-300) - n * (-300) := Int.sub_mul ..
  omega
theorem f14_ok (s : Sz) (t : Stp) (n : Int) : Fn Try.prog 14 [s.enc, t.enc, .int .i64 n] (.tup [(gradeS s t n).enc, .int .i64 (gradeE s t n)]) := by
  refine fn_of (m := {}) (k := Try.f14.ntmps - 3) fol Try.func14 rfl rfl ?_
  refine callN_pure _ _ _ ⟨rfl, rfl⟩ (f26_ok s) rfl ?_
  refine condP (fun h1 => ?_) (fun h1 => ?_)
  · rw [grade_res s t n 31 Sz.zero (by simp at h1; simp [gradeE, h1]) (by simp at h1; simp [gradeS, h1])]
    exact ⟨⟨rfl, rfl, rfl, rfl, rfl, rfl, rfl, rfl, rfl, rfl, rfl, rfl, rfl, rfl, rfl, rfl, rfl⟩, rfl⟩
  refine callN_pure _ _ _ ⟨rfl, rfl⟩ (f27_ok _ _ _) rfl ?_
  refine loopN_intro fun I hle hI => ?_
  iterate 5
    refine hI _ ?_
    refine ⟨by simp [AllP, under], ?_⟩
    refine ⟨_, fun _ => f27_ok _ _ _, ?_⟩
    refine ⟨by simp [AllP, under], ?_⟩
    refine ⟨wrap_small (by decide) (by decide), ?_⟩
  refine hI _ ?_
  have h1 : s.okb = true := by simpa using h1
  refine condP (fun h2 => ?_) (fun h2 => ?_)
  · have h2 : t.okb n = false := by simp [cond_false] at h2; unfold Stp.okb; simp only [Bool.and_eq_false_iff]; exact h2
    rw [grade_res s t n 2 Sz.zero (by simp [gradeE, h1, h2]) (by simp [gradeS, h2])]
    exact ⟨⟨rfl, rfl, rfl, rfl, rfl, rfl, rfl, rfl, rfl, rfl, rfl, rfl, rfl, rfl, rfl, rfl, rfl⟩, rfl⟩
  have h2 : t.okb n = true := by simpa [cond_false, Stp.okb] using h2
  have hs := h1
  simp [Sz.okb, Sz.fr, okR, btw, cond_false] at hs
  have ht := h2
  simp [Stp.okb, btw, cond_false] at ht
  have m0 := mul_bnd (n := n) (d := t.d0) (by omega) (by omega) (by omega) (by omega)
  have m1 := mul_bnd (n := n) (d := t.d1) (by omega) (by omega) (by omega) (by omega)
  have m2 := mul_bnd (n := n) (d := t.d2) (by omega) (by omega) (by omega) (by omega)
  have m3 := mul_bnd (n := n) (d := t.d3) (by omega) (by omega) (by omega) (by omega)
  have m4 := mul_bnd (n := n) (d := t.d4) (by omega) (by omega) (by omega) (by omega)
  refine ⟨by simp only [AllP, IntKind.wrap_i64]; omega, ?_⟩
  refine loopN_intro fun I hle hI => ?_
  iterate 5
    refine hI _ ?_
    refine ⟨by simp [AllP, under], ?_⟩
    refine ⟨by simp only [AllP, IntKind.wrap_i64]; omega, ?_⟩
    refine ⟨by simp only [AllP, IntKind.wrap_i64]; omega, ?_⟩
    refine ⟨wrap_small (by decide) (by decide), ?_⟩
  refine hI _ ?_
  refine callN_pure _ _ _ ⟨rfl, rfl⟩ ((f26_ok (up s t n)).args ⟨rfl, rfl, rfl, rfl, rfl, rfl, rfl, rfl, rfl, rfl, rfl, rfl, rfl, rfl, rfl, rfl, rfl⟩) rfl ?_
  refine condP (fun h3 => ?_) (fun h3 => ?_)
  · have h3 : (up s t n).okb = false := by simpa using h3
    rw [grade_res s t n 2 Sz.zero (by simp [gradeE, h1, h2, h3]) (by simp [gradeS, h3])]
    exact ⟨⟨rfl, rfl, rfl, rfl, rfl, rfl, rfl, rfl, rfl, rfl, rfl, rfl, rfl, rfl, rfl, rfl, rfl⟩, rfl⟩
  have h3 : (up s t n).okb = true := by simpa using h3
  rw [grade_res s t n 0 (up s t n) (by simp [gradeE, h1, h2, h3]) (by simp [gradeS, h1, h2, h3])]
  exact ⟨⟨rfl, rfl, rfl, rfl, rfl, rfl, rfl, rfl, rfl, rfl, rfl, rfl, rfl, rfl, rfl, rfl, rfl⟩, rfl⟩
end Abs
