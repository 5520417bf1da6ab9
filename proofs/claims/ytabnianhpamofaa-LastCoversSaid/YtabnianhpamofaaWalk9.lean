/- Walks: layer 3, ninth part: the first error of a size and a head. -/
import Derived.Test.YtabnianhpamofaaWalk7
import Derived.Test.YtabnianhpamofaaWalk8
set_option linter.unusedSectionVars false
set_option linter.unusedSimpArgs false
set_option linter.unusedVariables false
set_option maxRecDepth 100000
set_option maxHeartbeats 4000000
namespace Abs
open Go Go.Proofs
variable [DMode]
def single (s : Sz) (h : Hd) : Int := if s.okb then (if h.okb then 0 else 30) else 31
theorem f21_ok (s : Sz) (h : Hd) : Fn Try.prog 21 [s.enc, h.enc] (.int .i64 (single s h)) := by
  refine fn_of (m := {}) (k := Try.f21.ntmps - 2) fol Try.func21 rfl rfl ?_
  refine callN_pure _ _ _ ⟨rfl, rfl⟩ (f37_ok s) rfl ?_
  refine condP (fun h1 => ?_) (fun h1 => ?_)
  · refine congrArg (PV.int IntKind.i64) ?_
    simp at h1
    simp [single, h1]
  · refine callN_pure _ _ _ ⟨rfl, rfl⟩ (f38_ok h) rfl ?_
    simp at h1
    refine condP (fun h2 => ?_) (fun h2 => ?_)
    · refine congrArg (PV.int IntKind.i64) ?_
      simp at h2
      simp [single, h1, h2]
    · refine congrArg (PV.int IntKind.i64) ?_
      simp at h2
      simp [single, h1, h2]
theorem checkE_one (s : Sz) (h : Hd) (l : Nat → Sz) (k : Nat → Hd) (hl : l 0 = s) (hk : k 0 = h) : checkE l 1 k 1 = single s h := by
  have h1 : validSzs l 1 = s.okb := by
    simp only [validSzs, anyF, idxF, disF, seenB, hl]
    cases s.okb <;> simp
  have h2 : validHds k 1 = h.okb := by
    simp only [validHds, anyF, idxF, disF, seenB, hk]
    cases h.okb <;> simp
  simp only [checkE, single, h1, h2]
end Abs
