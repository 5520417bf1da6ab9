/- All single operations; one operation of a region, its guard looked at; a region in its own order. -/
import Derived.Test.YtabnianhpamofaaAbs15
set_option linter.unusedSectionVars false
set_option linter.unusedSimpArgs false
set_option linter.unusedVariables false
namespace Abs
open Go Go.RowKit
variable [DMode]

section
variable {P : Program} {s : SS} {m : Bool} {d : Option Nat} {K : V → Option (Nat × Nat × Blk) → List Prop → Prop}

theorem opK_elim {op : Op} {A : Acc} (hA : Sub A s) (h : opK P m A d op K) : Elim P s op K := by
  cases op
  case move => exact el_move hA h
  case assign => exact el_assign hA h
  case pick => exact el_pick hA h
  case alloc => exact el_alloc hA h
  case box => exact el_box hA h
  case build => exact el_build hA h
  case buildSlice => exact el_buildSlice hA h
  case load => exact el_load hA h
  case store => exact el_store hA h
  case nilCheck => exact el_nilCheck hA h
  case binOp => exact el_binOp hA h
  case unOp => exact el_unOp hA h
  case convert => exact el_convert hA h
  case makeFunc => exact el_makeFunc hA h
  case makeMap t r =>
    cases r with
    | none => exact el_makeMap hA h
    | some r => simp only [opK] at h
  case makeSlice => exact el_makeSlice hA h
  case slice t x lo hi mx =>
    cases mx with
    | none => exact el_slice hA h
    | some r => simp only [opK] at h
  case fieldAddr => exact el_fieldAddr hA h
  case field => exact el_field hA h
  case indexAddr => exact el_indexAddr hA h
  case index => exact el_index hA h
  case lookup => exact el_lookup hA h
  case mapUpdate => exact el_mapUpdate hA h
  case extract => exact el_extract hA h
  case call c =>
    obtain ⟨callee, args, ats⟩ := c
    cases callee with
    | value f => simp only [opK] at h
    | invoke r n => simp only [opK] at h
    | builtin b =>
      cases b
      case len => exact el_len hA h
      case max => exact el_max hA h
      case min => exact el_min hA h
      case append => exact el_append hA h
      all_goals simp only [opK] at h
  all_goals simp only [opK] at h
end
end Abs
