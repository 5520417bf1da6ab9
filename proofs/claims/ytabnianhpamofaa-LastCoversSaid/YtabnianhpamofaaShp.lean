/- Sizes and heads as they come in. -/
import Derived.Test.YtabnianhpamofaaWalk3
import Derived.Test.YtabnianhpamofaaAbs22
set_option linter.unusedSectionVars false
set_option linter.unusedSimpArgs false
set_option linter.unusedVariables false
namespace Abs
open Go Go.RowKit
variable [DMode]
def shInts (n : Nat) : Sh := .flat true (List.replicate n (.int .i64))
theorem sz_of {x : PV} (h : (shInts 17).ok x) : ∃ s : Sz, x = s.enc := by
  obtain ⟨xs, rfl, hl, hh⟩ := h
  match xs, hl with
  | [a0, a1, a2, a3, a4, a5, a6, a7, a8, a9, a10, a11, a12, a13, a14, a15, a16], _ =>
    obtain ⟨n0, e0, _⟩ := hh 0 (by simp)
    obtain ⟨n1, e1, _⟩ := hh 1 (by simp)
    obtain ⟨n2, e2, _⟩ := hh 2 (by simp)
    obtain ⟨n3, e3, _⟩ := hh 3 (by simp)
    obtain ⟨n4, e4, _⟩ := hh 4 (by simp)
    obtain ⟨n5, e5, _⟩ := hh 5 (by simp)
    obtain ⟨n6, e6, _⟩ := hh 6 (by simp)
    obtain ⟨n7, e7, _⟩ := hh 7 (by simp)
    obtain ⟨n8, e8, _⟩ := hh 8 (by simp)
    obtain ⟨n9, e9, _⟩ := hh 9 (by simp)
    obtain ⟨n10, e10, _⟩ := hh 10 (by simp)
    obtain ⟨n11, e11, _⟩ := hh 11 (by simp)
    obtain ⟨n12, e12, _⟩ := hh 12 (by simp)
    obtain ⟨n13, e13, _⟩ := hh 13 (by simp)
    obtain ⟨n14, e14, _⟩ := hh 14 (by simp)
    obtain ⟨n15, e15, _⟩ := hh 15 (by simp)
    obtain ⟨n16, e16, _⟩ := hh 16 (by simp)
    refine ⟨⟨n0, n1, n2, n3, n4, n5, n6, n7, n8, n9, n10, n11, n12, n13, n14, n15, n16⟩, ?_⟩
    cases e0; cases e1; cases e2; cases e3; cases e4; cases e5; cases e6; cases e7; cases e8; cases e9; cases e10; cases e11; cases e12; cases e13; cases e14; cases e15; cases e16
    rfl
theorem hd_of {x : PV} (h : (shInts 6).ok x) : ∃ s : Hd, x = s.enc := by
  obtain ⟨xs, rfl, hl, hh⟩ := h
  match xs, hl with
  | [a0, a1, a2, a3, a4, a5], _ =>
    obtain ⟨n0, e0, _⟩ := hh 0 (by simp)
    obtain ⟨n1, e1, _⟩ := hh 1 (by simp)
    obtain ⟨n2, e2, _⟩ := hh 2 (by simp)
    obtain ⟨n3, e3, _⟩ := hh 3 (by simp)
    obtain ⟨n4, e4, _⟩ := hh 4 (by simp)
    obtain ⟨n5, e5, _⟩ := hh 5 (by simp)
    refine ⟨⟨n0, n1, n2, n3, n4, n5⟩, ?_⟩
    cases e0; cases e1; cases e2; cases e3; cases e4; cases e5
    rfl
omit [DMode] in
theorem AllOk.cons {s : Sh} {ss : List Sh} {xs : List PV} (h : AllOk (s :: ss) xs) : ∃ x ys, xs = x :: ys ∧ s.ok x ∧ AllOk ss ys := by
  cases xs with
  | nil => exact h.elim
  | cons x ys => exact ⟨x, ys, rfl, h.1, h.2⟩
omit [DMode] in
theorem AllOk.nil {xs : List PV} (h : AllOk [] xs) : xs = [] := by
  cases xs with
  | nil => rfl
  | cons x ys => exact h.elim
omit [DMode] in
theorem int_of {x : PV} (h : (Sh.flat false [.int .i64]).ok x) : ∃ n : Int, x = .int .i64 n := by
  obtain ⟨k, hk, hx⟩ := h
  cases hk
  obtain ⟨n, rfl, _⟩ := hx
  exact ⟨n, rfl⟩
end Abs
