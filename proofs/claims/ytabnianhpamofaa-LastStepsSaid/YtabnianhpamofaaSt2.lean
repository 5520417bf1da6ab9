/- Walks: layer 3: the law LastSteps. -/
import Derived.Test.YtabnianhpamofaaSt1
import Derived.Test.YtabnianhpamofaaIt6
set_option linter.unusedSectionVars false
set_option linter.unusedSimpArgs false
set_option linter.unusedVariables false
set_option maxRecDepth 100000
set_option maxHeartbeats 4000000
namespace Abs
open Go Go.Proofs
variable [DMode]
theorem gradeE_zero {s : Sz} {t : Stp} {n : Int} (h : gradeE s t n = 0) : s.okb = true ∧ t.okb n = true ∧ (up s t n).okb = true ∧ gradeS s t n = up s t n := by
  unfold gradeE at h
  cases h1 : s.okb <;> simp [h1] at h
  cases h2 : t.okb n <;> simp [h2] at h
  cases h3 : (up s t n).okb <;> simp [h3] at h
  exact ⟨rfl, rfl, rfl, by simp [gradeS, h1, h2, h3]⟩
theorem up_up (s : Sz) (t : Stp) (m n : Int) : up (up s t m) t n = up s t (m + n) := by
  simp only [up, Int.add_mul, Int.add_assoc]
def w64 (a : Int) : Int := IntKind.wrap .i64 a
def grown (h : Hd) (t : Stp) (m : Int) : Hd := ⟨h.num, w64 (h.m0 + w64 (m * t.d0)), w64 (h.m1 + w64 (m * t.d1)), w64 (h.m2 + w64 (m * t.d2)), w64 (h.m3 + w64 (m * t.d3)), w64 (h.m4 + w64 (m * t.d4))⟩
theorem nd_shift (f t m x : Int) : nd (f + x) (t + x) (m + x) = nd f t m := by unfold nd; omega
theorem single_zero {s : Sz} {h : Hd} (e : single s h = 0) : s.okb = true ∧ h.okb = true := by
  unfold single at e
  split at e
  · rename_i h1
    split at e
    · rename_i h2; exact ⟨h1, h2⟩
    · cases e
  · cases e
theorem fits_grown (s : Sz) (h : Hd) (t : Stp) (m : Int) (e : gradeE s t m = 0) (h1 : single s h = 0) (h2 : single (gradeS s t m) (grown h t m) = 0) : fitsB (gradeS s t m) (grown h t m) = fitsB s h := by
  obtain ⟨_, ht, _, hz⟩ := gradeE_zero e
  have hb := bnd_of h1
  simp [Stp.okb, btw, cond_false] at ht
  have m0 := mul_bnd (n := m) (d := t.d0) (by omega) (by omega) (by omega) (by omega)
  have m1 := mul_bnd (n := m) (d := t.d1) (by omega) (by omega) (by omega) (by omega)
  have m2 := mul_bnd (n := m) (d := t.d2) (by omega) (by omega) (by omega) (by omega)
  have m3 := mul_bnd (n := m) (d := t.d3) (by omega) (by omega) (by omega) (by omega)
  have m4 := mul_bnd (n := m) (d := t.d4) (by omega) (by omega) (by omega) (by omega)
  have b0 := hb.m0
  have b1 := hb.m1
  have b2 := hb.m2
  have b3 := hb.m3
  have b4 := hb.m4
  have hg : grown h t m = ⟨h.num, h.m0 + m * t.d0, h.m1 + m * t.d1, h.m2 + m * t.d2, h.m3 + m * t.d3, h.m4 + m * t.d4⟩ := by
    simp only [grown, w64]
    rw [wrap_small (n := m * t.d0) (by omega) (by omega), wrap_small (n := m * t.d1) (by omega) (by omega), wrap_small (n := m * t.d2) (by omega) (by omega), wrap_small (n := m * t.d3) (by omega) (by omega), wrap_small (n := m * t.d4) (by omega) (by omega)]
    rw [wrap_small (by omega) (by omega), wrap_small (by omega) (by omega), wrap_small (by omega) (by omega), wrap_small (by omega) (by omega), wrap_small (by omega) (by omega)]
  unfold fitsB
  rw [h2, h1]
  unfold fltR
  rw [if_pos h1, if_pos h2, hz, hg]
  have hf : fltL (up s t m) ⟨h.num, h.m0 + m * t.d0, h.m1 + m * t.d1, h.m2 + m * t.d2, h.m3 + m * t.d3, h.m4 + m * t.d4⟩ = fltL s h := by
    simp only [fltL, flt, needS, up, nd_shift]
    rfl
  rw [hf]
theorem f4_ok (hd : DMode.d = false) (s : Sz) (h : Hd) (t : Stp) (m n : Int) : Fn Try.prog 4 [s.enc, h.enc, t.enc, .int .i64 m, .int .i64 n] (.bool true) := by
  refine fn_of (m := { wrap := true }) (k := Try.f4.ntmps - 5) fol Try.func4 rfl rfl ?_
  refine callN_pure _ _ _ ⟨rfl, rfl⟩ (f14_ok s t m) rfl ?_
  refine ⟨by simp [AllP, under], ?_⟩
  refine condP (fun c => ?_) (fun c => ?_)
  · refine callN_pure _ _ _ ⟨rfl, rfl⟩ (f13_ok hd) rfl ?_
    exact rfl
  have c' : gradeE s t m = 0 ∧ ¬ n < -20 ∧ ¬ n > 20 := by simpa [cond_true', and_assoc] using c
  obtain ⟨e0, en1, en2⟩ := c'
  obtain ⟨_, ht, _, hz⟩ := gradeE_zero e0
  have htm : -20 ≤ m ∧ m ≤ 20 := by
    simp [Stp.okb, btw, cond_false] at ht
    exact ht.1.1.1.1.1
  have hmn : IntKind.i64.wrap (m + n) = m + n := wrap_small (by omega) (by omega)
  refine callN_pure _ _ _ ⟨rfl, rfl⟩ (f14_ok _ t n) rfl ?_
  refine callN_pure _ _ _ ⟨rfl, rfl⟩ ((f14_ok s t (m + n)).args ⟨⟨rfl, rfl, rfl, rfl, rfl, rfl, rfl, rfl, rfl, rfl, rfl, rfl, rfl, rfl, rfl, rfl, rfl⟩, ⟨rfl, rfl, rfl, rfl, rfl⟩, ?_⟩) rfl ?_
  · show PV.int .i64 (IntKind.i64.wrap (m + n)) = _
    rw [hmn]
  refine ⟨?_, ?_⟩
  · simp [AllP, under]
    intro g1 g2
    exact ⟨by decide +kernel, g1, g2⟩
  refine condP (fun c2 => ?_) (fun c2 => ?_)
  · exfalso
    have c3 : gradeE (gradeS s t m) t n = 0 ∧ gradeE s t (m + n) = 0 := by
      simp only [cond_false, Bool.and_eq_true, decide_eq_true_eq] at c2
      exact c2.1
    obtain ⟨g1, g2⟩ := c3
    have z1 := (gradeE_zero g1).2.2.2
    have z2 := (gradeE_zero g2).2.2.2
    rw [z1, z2, hz, up_up] at c2
    simp at c2
  refine callN_pure _ _ _ ⟨rfl, rfl⟩ (f8_ok s h) rfl ?_
  refine loopN_intro fun I hle hI => ?_
  iterate 5
    refine hI _ ?_
    iterate 13 refine ⟨_, rfl, _, _, _, ⟨rfl, rfl, rfl⟩, ?_⟩
    refine ⟨by decide +kernel, ?_⟩
    refine ⟨by simp only [AllP]; decide +kernel, ?_⟩
  refine hI _ ?_
  refine callN_pure _ _ _ ⟨rfl, rfl⟩ (f8_ok (gradeS s t m) (grown h t m)) rfl ?_
  refine ⟨_, fun _ => f13_ok hd, ?_⟩
  refine ⟨by simp [AllP, under], ?_⟩
  refine congrArg PV.bool ?_
  by_cases x1 : single s h = 0
  · by_cases x2 : single (gradeS s t m) (grown h t m) = 0
    · rw [x1, x2, fits_grown s h t m e0 x1 x2]
      simp [beqBool_eq]
    · simp [x2]
  · simp [x1]
end Abs
