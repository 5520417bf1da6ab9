/- Walks: layer 3, tenth part: Need. -/
import Derived.Test.YtabnianhpamofaaWalk5
import Derived.Test.YtabnianhpamofaaWalk9
set_option linter.unusedSectionVars false
set_option linter.unusedSimpArgs false
set_option linter.unusedVariables false
set_option maxRecDepth 100000
set_option maxHeartbeats 4000000
namespace Abs
open Go Go.Proofs
variable [DMode]
theorem bnd_of {s : Sz} {h : Hd} (e : single s h = 0) : Bnd s h := by
  unfold single at e
  split at e
  · rename_i h1
    split at e
    · rename_i h2
      have h2 : h.okb = true := h2
      unfold Hd.okb at h2
      rw [anyF5] at h2
      simp [Hd.m, btw, cond_false] at h2
      simp [Sz.okb, Sz.fr, okR, btw, cond_false] at h1
      constructor <;> omega
    · cases e
  · cases e
def needR (s : Sz) (h : Hd) : PV := if single s h = 0 then .tup [needA s h, .int .i64 0] else .tup [.agg [.int .i64 0, .int .i64 0, .int .i64 0, .int .i64 0, .int .i64 0], .int .i64 (single s h)]
theorem f6_ok (s : Sz) (h : Hd) : Fn Try.prog 6 [s.enc, h.enc] (needR s h) := by
  refine fn_of (m := {}) (k := Try.f6.ntmps - 2) fol Try.func6 rfl rfl ?_
  refine callN_pure _ _ _ ⟨by decide, by decide, rfl, rfl⟩ ((f19_ok (fun _ => s) 1 (by decide) (fun _ => h) 1 (by decide)).args ?_) rfl ?_
  · exact ⟨⟨rfl, rfl, fun _ _ => rfl⟩, ⟨rfl, rfl, fun _ _ => rfl⟩⟩
  have hc := checkE_one s h (fun _ => s) (fun _ => h) rfl rfl
  rw [hc]
  refine condP (fun h1 => ?_) (fun h1 => ?_)
  · have h1 : ¬ single s h = 0 := by simpa using h1
    unfold needR
    rw [if_neg h1]
    exact ⟨⟨rfl, rfl, rfl, rfl, rfl⟩, rfl⟩
  · have h1 : single s h = 0 := by simpa using h1
    unfold needR
    rw [if_pos h1]
    refine callN_pure _ _ _ ⟨rfl, rfl⟩ (f20_ok s h (bnd_of h1)) rfl ?_
    exact ⟨⟨rfl, rfl, rfl, rfl, rfl⟩, rfl⟩
theorem f7_ok (s : Sz) (h : Hd) : Fn Try.prog 7 [s.enc, h.enc] (needR s h) := by
  refine fn_of (m := {}) (k := Try.f7.ntmps - 2) fol Try.func7 rfl rfl ?_
  refine callN_pure _ _ _ ⟨rfl, rfl⟩ (f21_ok s h) rfl ?_
  refine condP (fun h1 => ?_) (fun h1 => ?_)
  · have h1 : ¬ single s h = 0 := by simpa using h1
    unfold needR
    rw [if_neg h1]
    exact ⟨⟨rfl, rfl, rfl, rfl, rfl⟩, rfl⟩
  · have h1 : single s h = 0 := by simpa using h1
    unfold needR
    rw [if_pos h1]
    refine callN_pure _ _ _ ⟨rfl, rfl⟩ (f22_ok s h (bnd_of h1)) rfl ?_
    exact ⟨⟨rfl, rfl, rfl, rfl, rfl⟩, rfl⟩
end Abs
