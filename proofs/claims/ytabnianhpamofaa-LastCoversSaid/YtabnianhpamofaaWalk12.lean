/- Walks: layer 3, twelfth part: Faults, Fits. -/
import Derived.Test.YtabnianhpamofaaWalk11
set_option linter.unusedSectionVars false
set_option linter.unusedSimpArgs false
set_option linter.unusedVariables false
set_option maxRecDepth 100000
set_option maxHeartbeats 4000000
namespace Abs
open Go Go.Proofs
variable [DMode]
def fltR (s : Sz) (h : Hd) : IL := if single s h = 0 then fltL s h else ⟨0, fun _ => 0⟩
def faultsR (s : Sz) (h : Hd) : PV := .tup [(fltR s h).pv, .int .i64 (single s h)]
theorem f10_ok (s : Sz) (h : Hd) : Fn Try.prog 10 [s.enc, h.enc] (faultsR s h) := by
  refine fn_of (m := {}) (k := Try.f10.ntmps - 2) fol Try.func10 rfl rfl ?_
  refine callN_pure _ _ _ ⟨by decide, by decide, rfl, rfl⟩ ((f19_ok (fun _ => s) 1 (by decide) (fun _ => h) 1 (by decide)).args ?_) rfl ?_
  · exact ⟨⟨rfl, rfl, fun _ _ => rfl⟩, ⟨rfl, rfl, fun _ _ => rfl⟩⟩
  have hc := checkE_one s h (fun _ => s) (fun _ => h) rfl rfl
  rw [hc]
  unfold faultsR fltR
  refine condP (fun h1 => ?_) (fun h1 => ?_)
  · have h1 : ¬ single s h = 0 := by simpa using h1
    rw [if_neg h1]
    exact ⟨rfl, rfl⟩
  · have h1 : single s h = 0 := by simpa using h1
    rw [if_pos h1]
    refine callN_pure _ _ _ ⟨rfl, rfl⟩ (f23_ok s h (bnd_of h1)) rfl ?_
    rw [h1]
    exact ⟨⟨rfl, rfl, fun _ _ => rfl⟩, rfl⟩
theorem f11_ok (s : Sz) (h : Hd) : Fn Try.prog 11 [s.enc, h.enc] (faultsR s h) := by
  refine fn_of (m := {}) (k := Try.f11.ntmps - 2) fol Try.func11 rfl rfl ?_
  refine callN_pure _ _ _ ⟨rfl, rfl⟩ (f21_ok s h) rfl ?_
  unfold faultsR fltR
  refine condP (fun h1 => ?_) (fun h1 => ?_)
  · have h1 : ¬ single s h = 0 := by simpa using h1
    rw [if_neg h1]
    exact ⟨rfl, rfl⟩
  · have h1 : single s h = 0 := by simpa using h1
    rw [if_pos h1]
    refine callN_pure _ _ _ ⟨rfl, rfl⟩ (f24_ok s h (bnd_of h1)) rfl ?_
    rw [h1]
    exact ⟨⟨rfl, rfl, fun _ _ => rfl⟩, rfl⟩
def fitsB (s : Sz) (h : Hd) : Bool := decide (single s h = 0) && decide ((fltR s h).k = 0)
theorem f8_ok (s : Sz) (h : Hd) : Fn Try.prog 8 [s.enc, h.enc] (.tup [.bool (fitsB s h), .int .i64 (single s h)]) := by
  refine fn_of (m := {}) (k := Try.f8.ntmps - 2) fol Try.func8 rfl rfl ?_
  refine callN_pure _ _ _ ⟨rfl, rfl⟩ (f10_ok s h) rfl ?_
  refine ⟨by simp [AllP, under], ?_⟩
  refine ⟨?_, rfl⟩
  refine congrArg PV.bool ?_
  simp [fitsB, cond_false]
theorem f9_ok (s : Sz) (h : Hd) : Fn Try.prog 9 [s.enc, h.enc] (.tup [.bool (fitsB s h), .int .i64 (single s h)]) := by
  refine fn_of (m := {}) (k := Try.f9.ntmps - 2) fol Try.func9 rfl rfl ?_
  refine callN_pure _ _ _ ⟨rfl, rfl⟩ (f11_ok s h) rfl ?_
  refine ⟨by simp [AllP, under], ?_⟩
  refine ⟨?_, rfl⟩
  refine congrArg PV.bool ?_
  simp [fitsB, cond_false]
end Abs
