/- The statement LastNeeds: what heads need in sizes, which sizes fit, and why others do not: for every input the law returns true, and its arguments read as they did. No condition. -/
import Derived.Test.YtabnianhpamofaaRows
import Derived.Test.YtabnianhpamofaaIt6
import Derived.Test.YtabnianhpamofaaShp
set_option linter.unusedSectionVars false
set_option linter.unusedSimpArgs false
set_option linter.unusedVariables false
set_option maxRecDepth 100000
namespace Go.Proofs.Ytabnianhpamofaa
open Go Go.RowKit Go.ChangeShapes Go.WideShapes Go.ChangeAt Abs
theorem own : ownKnob Try.prog.godebug = none := by kernel_rfl
theorem laidOut : laidOutB Try.prog = true := by kernel_rfl
theorem law_needs : ∀ xs, AllOk [shInts 17, shInts 6] xs → @Abs.Fn noDraws Try.prog 3 xs (.bool true) := fun xs h => by
  match xs, h with
  | [a, b], ⟨h1, h2, _⟩ =>
    obtain ⟨s, rfl⟩ := @sz_of noDraws _ h1
    obtain ⟨t, rfl⟩ := @hd_of noDraws _ h2
    exact @f3_ok noDraws rfl s t
theorem lifted (os : Os) (started : os.Started) (H : Type) (enc : TypeId × Value → H) :
    ReturnsInHanded {} Try.checked os 3 .any (Rows.lastNeedsSpec.pre6 enc Try.prog Try.f3 Rows.lastNeedsRow.domain false) (Rows.lastNeedsSpec.post enc Try.prog Try.f3 false true false false) := by
  refine returnsInHanded_of_change_sized (C := Try.checked) own started (by kernel_rfl) Try.func3
    (ChangeSpec.witness6 (enc := enc) (C := Try.checked) false ⟨#[], #[.agg (Array.replicate 17 (.int .i64 0)), .agg (Array.replicate 6 (.int .i64 0))], []⟩ 8 (by kernel_rfl) (by kernel_rfl) (by kernel_rfl) (by kernel_rfl)) ?_
  intro W base args ds gs before hval hW _ hw _
  obtain rfl : gs = [] := by
    obtain ⟨p, q, _, hV, _⟩ := hW
    exact (trodVars_none hV).1
  refine @law_call noDraws H enc Try.prog _ _ _ [shInts 17, shInts 6] 4 W base args ds [] before laidOut (by kernel_rfl) rfl rfl Try.underlying4 (fun ds hd => ?_) ⟨_, Try.func3, by decide +kernel, rfl⟩ law_needs hval hW hw (fun _ _ hv _ _ => hv)
  match ds, hd with
  | [d1, d2], _ => exact ⟨rfl, rfl, rfl⟩
theorem lastNeeds_holds : Rows.LastNeedsSaid :=
  OpenClaim.holds_of_wide 3 Try.f3 rfl rfl rfl rfl rfl rfl rfl ⟨rfl, rfl, rfl, rfl, rfl⟩ rfl rfl rfl rfl rfl (by kernel_rfl) Try.func3 (by kernel_rfl)
    (of_decide_eq_true (by kernel_rfl)) (by unfold Func.isWrapper; first | (rw [if_pos (by decide +kernel)]; kernel_rfl) | (rw [if_neg (by decide +kernel)]; exact ⟨rfl, rfl⟩))
    (fun os started H enc _ => lifted os started H enc)
#print axioms lastNeeds_holds
end Go.Proofs.Ytabnianhpamofaa
