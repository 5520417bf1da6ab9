/- Walks: layer 3, sixth part: same lists. -/
import Derived.Test.YtabnianhpamofaaWalk4
set_option linter.unusedSectionVars false
set_option linter.unusedSimpArgs false
set_option linter.unusedVariables false
set_option maxRecDepth 100000
set_option maxHeartbeats 4000000
namespace Abs
open Go Go.Proofs
variable [DMode]
def intS (n : Nat) (a : Nat → Int) : PV := .slice 1 n fun i => .int .i64 (a i)
def sameF (a b : Nat → Int) : Nat → Nat → Bool
  | _, 0 => true
  | i, k + 1 => decide (a i = b i) && sameF a b (i + 1) k
theorem f12_ok (a b : Nat → Int) (n m : Nat) (hn : n ≤ 140737488355328) :
    Fn Try.prog 12 [.slice 1 n fun i => .int .i64 (a i), .slice 1 m fun i => .int .i64 (b i)] (.bool (decide (n = m) && sameF a b 0 n)) := by
  refine fn_of (m := {}) (k := 24) fol Try.func12 rfl rfl ?_
  refine condP (fun h => ?_) (fun h => ?_)
  · refine congrArg PV.bool ?_
    have : n ≠ m := by simp at h; omega
    simp [this]
  have hnm : n = m := by simp at h; omega
  subst hnm
  refine loopN_intro fun I hle hI => ?_
  have key : ∀ i, i ≤ n → sameF a b 0 n = sameF a b i (n - i) → stK 26 [(0, .pv (.slice 1 n fun i => .int .i64 (a i))), (1, .pv (.slice 1 n fun i => .int .i64 (b i))), (4, .pv (.bool false)), (12, .pv (.int .i64 n)), (13, .pv (.int .i64 i))] [] I := by
    refine up_ind n fun i hi ih he => ?_
    refine hI _ ?_
    refine condP (fun hc => ?_) (fun hc => ?_)
    · have hlt : i < n := by simpa using hc
      iterate 9 refine ⟨_, rfl, _, _, _, ⟨rfl, rfl, rfl⟩, ?_⟩
      refine ⟨by decide +kernel, ?_⟩
      refine ⟨?_, ?_⟩
      · simp [AllP]; omega
      refine condP (fun hp => ?_) (fun hp => ?_)
      · refine congrArg PV.bool ?_
        have hp : ¬ a i = b i := by simpa using hp
        rw [he, show n - i = (n - i - 1) + 1 by omega, sameF]
        simp [hp]
      · have hp : a i = b i := by simpa using hp
        refine ⟨wrap_small (by omega) (by omega), ?_⟩
        refine hle _ _ (le_of ?_) (ih (i + 1) (Nat.lt_succ_self i) hlt ?_)
        · repeat' (first | exact Same.refl _ | exact rfl | refine And.intro ?_ ?_)
        · rw [he, show n - i = (n - i - 1) + 1 by omega, sameF, hp]
          simp [show n - (i + 1) = n - i - 1 by omega]
    · refine congrArg PV.bool ?_
      have : i = n := by simp at hc; omega
      rw [he, this, Nat.sub_self]
      simp [sameF]
  refine hle _ _ (le_of ?_) (key 0 (Nat.zero_le _) rfl)
  repeat' (first | exact Same.refl _ | exact rfl | refine And.intro ?_ ?_)
end Abs
