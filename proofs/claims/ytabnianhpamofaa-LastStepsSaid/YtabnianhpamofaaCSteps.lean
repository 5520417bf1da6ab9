/- The statement LastSteps: grading step by step is grading at once, and a head that has grown as the size has fits as before: for every input the law returns true, and its arguments read as they did. No condition. -/
import Derived.Test.YtabnianhpamofaaRows
import Derived.Test.YtabnianhpamofaaSt2
import Derived.Test.YtabnianhpamofaaShp
set_option linter.unusedSectionVars false
set_option linter.unusedSimpArgs false
set_option linter.unusedVariables false
set_option maxRecDepth 100000
namespace Go.Proofs.Ytabnianhpamofaa
open Go Go.RowKit Go.ChangeShapes Go.WideShapes Go.ChangeAt Abs
theorem stp_of {x : PV} (h : (shInts 5).ok x) : ∃ s : Stp, x = s.enc := by
  obtain ⟨xs, rfl, hl, hh⟩ := h
  match xs, hl with
  | [a0, a1, a2, a3, a4], _ =>
    obtain ⟨n0, e0, _⟩ := hh 0 (by simp)
    obtain ⟨n1, e1, _⟩ := hh 1 (by simp)
    obtain ⟨n2, e2, _⟩ := hh 2 (by simp)
    obtain ⟨n3, e3, _⟩ := hh 3 (by simp)
    obtain ⟨n4, e4, _⟩ := hh 4 (by simp)
    refine ⟨⟨n0, n1, n2, n3, n4⟩, ?_⟩
    cases e0; cases e1; cases e2; cases e3; cases e4
    rfl
theorem own : ownKnob Try.prog.godebug = none := by kernel_rfl
theorem laidOut : laidOutB Try.prog = true := by kernel_rfl
theorem law_steps : ∀ xs, AllOk [shInts 17, shInts 6, shInts 5, .flat false [.int .i64], .flat false [.int .i64]] xs → @Abs.Fn noDraws Try.prog 4 xs (.bool true) := fun xs h => by
  obtain ⟨a, xs, rfl, h1, h⟩ := h.cons
  obtain ⟨b, xs, rfl, h2, h⟩ := h.cons
  obtain ⟨c, xs, rfl, h3, h⟩ := h.cons
  obtain ⟨d, xs, rfl, h4, h⟩ := h.cons
  obtain ⟨e, xs, rfl, h5, h⟩ := h.cons
  obtain rfl := h.nil
  obtain ⟨s, rfl⟩ := @sz_of noDraws _ h1
  obtain ⟨t, rfl⟩ := @hd_of noDraws _ h2
  obtain ⟨u, rfl⟩ := stp_of h3
  obtain ⟨m, rfl⟩ := int_of h4
  obtain ⟨n, rfl⟩ := int_of h5
  exact @f4_ok noDraws rfl s t u m n
theorem lifted (os : Os) (started : os.Started) (H : Type) (enc : TypeId × Value → H) :
    ReturnsInHanded {} Try.checked os 4 .any (Rows.lastStepsSpec.pre6 enc Try.prog Try.f4 Rows.lastStepsRow.domain false) (Rows.lastStepsSpec.post enc Try.prog Try.f4 false true false false) := by
  refine returnsInHanded_of_change_sized (C := Try.checked) own started (by kernel_rfl) Try.func4
    (ChangeSpec.witness6 (enc := enc) (C := Try.checked) false ⟨#[], #[.agg (Array.replicate 17 (.int .i64 0)), .agg (Array.replicate 6 (.int .i64 0)), .agg (Array.replicate 5 (.int .i64 0)), .int .i64 0, .int .i64 0], []⟩ 8 (by kernel_rfl) (by kernel_rfl) (by kernel_rfl) (by kernel_rfl)) ?_
  intro W base args ds gs before hval hW _ hw _
  obtain rfl : gs = [] := by
    obtain ⟨p, q, _, hV, _⟩ := hW
    exact (trodVars_none hV).1
  refine @law_call noDraws H enc Try.prog _ _ _ [shInts 17, shInts 6, shInts 5, .flat false [.int .i64], .flat false [.int .i64]] 4 W base args ds [] before laidOut (by kernel_rfl) rfl rfl Try.underlying4 (fun ds hd => ?_) ⟨_, Try.func4, by decide +kernel, rfl⟩ law_steps hval hW hw (fun _ _ hv _ _ => hv)
  match ds, hd with
  | [d1, d2, d3, d4, d5], _ => exact ⟨rfl, rfl, rfl⟩
theorem lastSteps_holds : Rows.LastStepsSaid :=
  OpenClaim.holds_of_wide 4 Try.f4 rfl rfl rfl rfl rfl rfl rfl ⟨rfl, rfl, rfl, rfl, rfl⟩ rfl rfl rfl rfl rfl (by kernel_rfl) Try.func4 (by kernel_rfl)
    (of_decide_eq_true (by kernel_rfl)) (by unfold Func.isWrapper; first | (rw [if_pos (by decide +kernel)]; kernel_rfl) | (rw [if_neg (by decide +kernel)]; exact ⟨rfl, rfl⟩))
    (fun os started H enc _ => lifted os started H enc)
#print axioms lastSteps_holds
end Go.Proofs.Ytabnianhpamofaa
