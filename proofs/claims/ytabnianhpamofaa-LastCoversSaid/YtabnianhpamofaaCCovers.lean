/- The statement LastCovers: which sizes cover heads, and which heads are apart: for every input the law returns true, and its arguments read as they did. No condition. -/
import Derived.Test.YtabnianhpamofaaRows
import Derived.Test.YtabnianhpamofaaCv6
import Derived.Test.YtabnianhpamofaaShp
set_option linter.unusedSectionVars false
set_option linter.unusedSimpArgs false
set_option linter.unusedVariables false
set_option maxRecDepth 100000
namespace Go.Proofs.Ytabnianhpamofaa
open Go Go.RowKit Go.ChangeShapes Go.WideShapes Go.ChangeAt Abs
theorem own : ownKnob Try.prog.godebug = none := by kernel_rfl
theorem laidOut : laidOutB Try.prog = true := by kernel_rfl
theorem law_covers : ∀ xs, AllOk [.slice (shInts 17), .slice (shInts 6), .slice (.flat false [.int .i64])] xs → @Abs.Fn noDraws Try.prog 5 xs (.bool true) := fun xs h => by
  obtain ⟨a, xs, rfl, h1, h⟩ := h.cons
  obtain ⟨b, xs, rfl, h2, h⟩ := h.cons
  obtain ⟨c, xs, rfl, h3, h⟩ := h.cons
  obtain rfl := h.nil
  exact @f5_any noDraws rfl a b c h1 h2 h3
theorem lifted (os : Os) (started : os.Started) (H : Type) (enc : TypeId × Value → H) :
    ReturnsInHanded {} Try.checked os 5 .any (Rows.lastCoversSpec.pre6 enc Try.prog Try.f5 Rows.lastCoversRow.domain false) (Rows.lastCoversSpec.post enc Try.prog Try.f5 false true false false) := by
  refine returnsInHanded_of_change_sized (C := Try.checked) own started (by kernel_rfl) Try.func5
    (ChangeSpec.witness6 (enc := enc) (C := Try.checked) false ⟨#[], #[.slice none 0 0, .slice none 0 0, .slice none 0 0], []⟩ 8 (by kernel_rfl) (by kernel_rfl) (by kernel_rfl) (by kernel_rfl)) ?_
  intro W base args ds gs before hval hW _ hw _
  obtain rfl : gs = [] := by
    obtain ⟨p, q, _, hV, _⟩ := hW
    exact (trodVars_none hV).1
  refine @law_call noDraws H enc Try.prog _ _ _ [.slice (shInts 17), .slice (shInts 6), .slice (.flat false [.int .i64])] 4 W base args ds [] before laidOut (by kernel_rfl) rfl rfl Try.underlying4 (fun ds hd => ?_) ⟨_, Try.func5, by decide +kernel, rfl⟩ law_covers hval hW hw (fun _ _ h => h.elim) (fun _ _ hv _ _ => hv)
  match ds, hd with
  | [d1, d2, d3], _ => exact ⟨rfl, rfl, rfl⟩
theorem lastCovers_holds : Rows.LastCoversSaid :=
  OpenClaim.holds_of_wide 5 Try.f5 rfl rfl rfl rfl rfl rfl rfl ⟨rfl, rfl, rfl, rfl, rfl⟩ rfl rfl rfl rfl rfl (by kernel_rfl) Try.func5 (by kernel_rfl)
    (of_decide_eq_true (by kernel_rfl)) (by unfold Func.isWrapper; first | (rw [if_pos (by decide +kernel)]; kernel_rfl) | (rw [if_neg (by decide +kernel)]; exact ⟨rfl, rfl⟩))
    (fun os started H enc _ => lifted os started H enc)
#print axioms lastCovers_holds
end Go.Proofs.Ytabnianhpamofaa
