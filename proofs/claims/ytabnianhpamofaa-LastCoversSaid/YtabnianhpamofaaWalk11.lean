/- Walks: layer 3, eleventh part: faults. (Printed by wip/gen_walk11.py.) -/
import Derived.Test.YtabnianhpamofaaWalk10
set_option linter.unusedSectionVars false
set_option linter.unusedSimpArgs false
set_option linter.unusedVariables false
set_option maxRecDepth 100000
set_option maxHeartbeats 4000000
namespace Abs
open Go Go.Proofs
variable [DMode]
/-- A list of numbers, as it grows. -/
structure IL where
  k : Nat
  a : Nat → Int
def IL.add (l : IL) (x : Int) : IL := ⟨l.k + 1, fun i => if i < l.k then l.a i else x⟩
def IL.addIf (l : IL) (c : Bool) (x : Int) : IL := cond c (l.add x) l
def IL.pv (l : IL) : PV := .slice 1 l.k fun i => .int .i64 (l.a i)
def flt (s : Sz) (h : Hd) (l : IL) : Nat → IL
  | 0 => flt s h (l.addIf (decide (nd s.f0 s.t0 h.m0 > s.b0)) 0) 1
  | 1 => flt s h (l.addIf (decide (nd s.f1 s.t1 h.m1 > s.b1)) 1) 2
  | 2 => flt s h (l.addIf (decide (nd s.f2 s.t2 h.m2 > s.b2)) 2) 3
  | 3 => flt s h (l.addIf (decide (nd s.f3 s.t3 h.m3 > s.b3)) 3) 4
  | 4 => flt s h (l.addIf (decide (nd s.f4 s.t4 h.m4 > s.b4)) 4) 5
  | _ => l.addIf (decide (needS s h > s.tot)) 5
termination_by i => 5 - i
def fltL (s : Sz) (h : Hd) : IL := flt s h ⟨0, fun _ => 0⟩ 0

theorem f23_ok (s : Sz) (h : Hd) (hb : Bnd s h) : Fn Try.prog 23 [s.enc, h.enc] (fltL s h).pv := by
  refine fn_of (m := {}) (k := Try.f23.ntmps - 2) fol Try.func23 rfl rfl ?_
  refine callN_pure _ _ _ ⟨rfl, rfl⟩ (f20_ok s h hb) rfl ?_
  refine loopN_intro fun I hle hI => ?_
  have r5 : ∀ l : IL, l.k ≤ 5 → flt s h l 5 = fltL s h → stK 40 [(2, .ptr 2 1 0), (4, .pv .nil), (5, .sl 30 1 1 0 l.k), (7, .pv (.int .i64 (needS s h))), (16, .pv (needA s h)), (17, .pv (.int .i64 5))] [(2, 1, .cells s.cells), (30, 1, .arr 1 l.k fun i => .int .i64 (l.a i))] I := by
    intro l hk he
    have hr : fltL s h = l.addIf (decide (needS s h > s.tot)) 5 := by rw [← he]; simp only [flt]
    refine hI _ ?_
    refine condP (fun c => ?_) (fun c => ?_)
    · have c : decide (needS s h > s.tot) = true := c
      rw [c] at hr
      refine ⟨?_, ?_⟩
      · have hb8 : bounded (l.k + 1) (Nat.max Try.t3.bytes Try.t3.size) := show (l.k + 1) * 8 ≤ 70368744177664 by omega
        simp only [AllP]
        refine ⟨?_, ?_, ?_, ?_⟩ <;> first | exact hb8 | omega | rfl | trivial | (simp; done)
      rw [hr]
      refine ⟨by simp, rfl, rfl, fun j hj => ?_⟩
      simp only [Nat.zero_add, IL.addIf, cond_true, IL.add]; split <;> rfl
    · have c : decide (needS s h > s.tot) = false := c
      rw [c] at hr
      rw [hr]
      refine ⟨by simp, rfl, rfl, fun j hj => ?_⟩
      simp [IL.addIf]
  have r4 : ∀ l : IL, l.k ≤ 4 → flt s h l 4 = fltL s h → stK 40 [(2, .ptr 2 1 0), (4, .pv .nil), (5, .sl 30 1 1 0 l.k), (7, .pv (.int .i64 (needS s h))), (16, .pv (needA s h)), (17, .pv (.int .i64 4))] [(2, 1, .cells s.cells), (30, 1, .arr 1 l.k fun i => .int .i64 (l.a i))] I := by
    intro l hk he
    refine hI _ ?_
    refine ⟨by simp [AllP], ?_⟩
    refine ⟨by simp [AllP], ?_⟩
    refine condP (fun c => ?_) (fun c => ?_)
    · refine ⟨?_, ?_⟩
      · have hb8 : bounded (l.k + 1) (Nat.max Try.t3.bytes Try.t3.size) := show (l.k + 1) * 8 ≤ 70368744177664 by omega
        simp only [AllP]
        refine ⟨?_, ?_, ?_, ?_⟩ <;> first | exact hb8 | omega | rfl | trivial | (simp; done)
      refine ⟨wrap_small (by decide) (by decide), ?_⟩
      refine hle _ _ (le_of ?_) (r5 (l.add 4) (by simp only [IL.add]; omega) ?_)
      · repeat' (first | exact Same.refl _ | exact rfl | refine And.intro ?_ ?_ | (intro j hj; simp only [IL.add]; split <;> rfl))
      · rw [← he]; simp only [flt]
        have c : decide (nd s.f4 s.t4 h.m4 > s.b4) = true := c
        rw [c]; rfl
    · refine ⟨wrap_small (by decide) (by decide), ?_⟩
      refine hle _ _ (le_of ?_) (r5 l (by omega) ?_)
      · repeat' (first | exact Same.refl _ | exact rfl | refine And.intro ?_ ?_ | (intro j hj; rfl))
      · rw [← he]; simp only [flt]
        have c : decide (nd s.f4 s.t4 h.m4 > s.b4) = false := c
        rw [c]; rfl
  have r3 : ∀ l : IL, l.k ≤ 3 → flt s h l 3 = fltL s h → stK 40 [(2, .ptr 2 1 0), (4, .pv .nil), (5, .sl 30 1 1 0 l.k), (7, .pv (.int .i64 (needS s h))), (16, .pv (needA s h)), (17, .pv (.int .i64 3))] [(2, 1, .cells s.cells), (30, 1, .arr 1 l.k fun i => .int .i64 (l.a i))] I := by
    intro l hk he
    refine hI _ ?_
    refine ⟨by simp [AllP], ?_⟩
    refine ⟨by simp [AllP], ?_⟩
    refine condP (fun c => ?_) (fun c => ?_)
    · refine ⟨?_, ?_⟩
      · have hb8 : bounded (l.k + 1) (Nat.max Try.t3.bytes Try.t3.size) := show (l.k + 1) * 8 ≤ 70368744177664 by omega
        simp only [AllP]
        refine ⟨?_, ?_, ?_, ?_⟩ <;> first | exact hb8 | omega | rfl | trivial | (simp; done)
      refine ⟨wrap_small (by decide) (by decide), ?_⟩
      refine hle _ _ (le_of ?_) (r4 (l.add 3) (by simp only [IL.add]; omega) ?_)
      · repeat' (first | exact Same.refl _ | exact rfl | refine And.intro ?_ ?_ | (intro j hj; simp only [IL.add]; split <;> rfl))
      · rw [← he]; simp only [flt]
        have c : decide (nd s.f3 s.t3 h.m3 > s.b3) = true := c
        rw [c]; rfl
    · refine ⟨wrap_small (by decide) (by decide), ?_⟩
      refine hle _ _ (le_of ?_) (r4 l (by omega) ?_)
      · repeat' (first | exact Same.refl _ | exact rfl | refine And.intro ?_ ?_ | (intro j hj; rfl))
      · rw [← he]; simp only [flt]
        have c : decide (nd s.f3 s.t3 h.m3 > s.b3) = false := c
        rw [c]; rfl
  have r2 : ∀ l : IL, l.k ≤ 2 → flt s h l 2 = fltL s h → stK 40 [(2, .ptr 2 1 0), (4, .pv .nil), (5, .sl 30 1 1 0 l.k), (7, .pv (.int .i64 (needS s h))), (16, .pv (needA s h)), (17, .pv (.int .i64 2))] [(2, 1, .cells s.cells), (30, 1, .arr 1 l.k fun i => .int .i64 (l.a i))] I := by
    intro l hk he
    refine hI _ ?_
    refine ⟨by simp [AllP], ?_⟩
    refine ⟨by simp [AllP], ?_⟩
    refine condP (fun c => ?_) (fun c => ?_)
    · refine ⟨?_, ?_⟩
      · have hb8 : bounded (l.k + 1) (Nat.max Try.t3.bytes Try.t3.size) := show (l.k + 1) * 8 ≤ 70368744177664 by omega
        simp only [AllP]
        refine ⟨?_, ?_, ?_, ?_⟩ <;> first | exact hb8 | omega | rfl | trivial | (simp; done)
      refine ⟨wrap_small (by decide) (by decide), ?_⟩
      refine hle _ _ (le_of ?_) (r3 (l.add 2) (by simp only [IL.add]; omega) ?_)
      · repeat' (first | exact Same.refl _ | exact rfl | refine And.intro ?_ ?_ | (intro j hj; simp only [IL.add]; split <;> rfl))
      · rw [← he]; simp only [flt]
        have c : decide (nd s.f2 s.t2 h.m2 > s.b2) = true := c
        rw [c]; rfl
    · refine ⟨wrap_small (by decide) (by decide), ?_⟩
      refine hle _ _ (le_of ?_) (r3 l (by omega) ?_)
      · repeat' (first | exact Same.refl _ | exact rfl | refine And.intro ?_ ?_ | (intro j hj; rfl))
      · rw [← he]; simp only [flt]
        have c : decide (nd s.f2 s.t2 h.m2 > s.b2) = false := c
        rw [c]; rfl
  have r1 : ∀ l : IL, l.k ≤ 1 → flt s h l 1 = fltL s h → stK 40 [(2, .ptr 2 1 0), (4, .pv .nil), (5, .sl 30 1 1 0 l.k), (7, .pv (.int .i64 (needS s h))), (16, .pv (needA s h)), (17, .pv (.int .i64 1))] [(2, 1, .cells s.cells), (30, 1, .arr 1 l.k fun i => .int .i64 (l.a i))] I := by
    intro l hk he
    refine hI _ ?_
    refine ⟨by simp [AllP], ?_⟩
    refine ⟨by simp [AllP], ?_⟩
    refine condP (fun c => ?_) (fun c => ?_)
    · refine ⟨?_, ?_⟩
      · have hb8 : bounded (l.k + 1) (Nat.max Try.t3.bytes Try.t3.size) := show (l.k + 1) * 8 ≤ 70368744177664 by omega
        simp only [AllP]
        refine ⟨?_, ?_, ?_, ?_⟩ <;> first | exact hb8 | omega | rfl | trivial | (simp; done)
      refine ⟨wrap_small (by decide) (by decide), ?_⟩
      refine hle _ _ (le_of ?_) (r2 (l.add 1) (by simp only [IL.add]; omega) ?_)
      · repeat' (first | exact Same.refl _ | exact rfl | refine And.intro ?_ ?_ | (intro j hj; simp only [IL.add]; split <;> rfl))
      · rw [← he]; simp only [flt]
        have c : decide (nd s.f1 s.t1 h.m1 > s.b1) = true := c
        rw [c]; rfl
    · refine ⟨wrap_small (by decide) (by decide), ?_⟩
      refine hle _ _ (le_of ?_) (r2 l (by omega) ?_)
      · repeat' (first | exact Same.refl _ | exact rfl | refine And.intro ?_ ?_ | (intro j hj; rfl))
      · rw [← he]; simp only [flt]
        have c : decide (nd s.f1 s.t1 h.m1 > s.b1) = false := c
        rw [c]; rfl
  have r0 : ∀ l : IL, l.k ≤ 0 → flt s h l 0 = fltL s h → stK 40 [(2, .ptr 2 1 0), (4, .pv .nil), (5, .sl 30 1 1 0 l.k), (7, .pv (.int .i64 (needS s h))), (16, .pv (needA s h)), (17, .pv (.int .i64 0))] [(2, 1, .cells s.cells), (30, 1, .arr 1 l.k fun i => .int .i64 (l.a i))] I := by
    intro l hk he
    refine hI _ ?_
    refine ⟨by simp [AllP], ?_⟩
    refine ⟨by simp [AllP], ?_⟩
    refine condP (fun c => ?_) (fun c => ?_)
    · refine ⟨?_, ?_⟩
      · have hb8 : bounded (l.k + 1) (Nat.max Try.t3.bytes Try.t3.size) := show (l.k + 1) * 8 ≤ 70368744177664 by omega
        simp only [AllP]
        refine ⟨?_, ?_, ?_, ?_⟩ <;> first | exact hb8 | omega | rfl | trivial | (simp; done)
      refine ⟨wrap_small (by decide) (by decide), ?_⟩
      refine hle _ _ (le_of ?_) (r1 (l.add 0) (by simp only [IL.add]; omega) ?_)
      · repeat' (first | exact Same.refl _ | exact rfl | refine And.intro ?_ ?_ | (intro j hj; simp only [IL.add]; split <;> rfl))
      · rw [← he]; simp only [flt]
        have c : decide (nd s.f0 s.t0 h.m0 > s.b0) = true := c
        rw [c]; rfl
    · refine ⟨wrap_small (by decide) (by decide), ?_⟩
      refine hle _ _ (le_of ?_) (r1 l (by omega) ?_)
      · repeat' (first | exact Same.refl _ | exact rfl | refine And.intro ?_ ?_ | (intro j hj; rfl))
      · rw [← he]; simp only [flt]
        have c : decide (nd s.f0 s.t0 h.m0 > s.b0) = false := c
        rw [c]; rfl
  refine hle _ _ (le_of ?_) (r0 ⟨0, fun _ => 0⟩ (Nat.le_refl _) rfl)
  repeat' (first | exact Same.refl _ | exact rfl | refine And.intro ?_ ?_ | (intro j hj; exact absurd hj (Nat.not_lt_zero j)))

theorem f24_ok (s : Sz) (h : Hd) (hb : Bnd s h) : Fn Try.prog 24 [s.enc, h.enc] (fltL s h).pv := by
  refine fn_of (m := {}) (k := Try.f24.ntmps - 2) fol Try.func24 rfl rfl ?_
  refine callN_pure _ _ _ ⟨rfl, rfl⟩ (f22_ok s h hb) rfl ?_
  refine loopN_intro fun I hle hI => ?_
  have r5 : ∀ l : IL, l.k ≤ 5 → flt s h l 5 = fltL s h → stK 39 [(2, .ptr 2 1 0), (4, .pv .nil), (5, .sl 29 1 1 0 l.k), (6, .ptr 6 1 0), (7, .pv (.int .i64 (needS s h))), (15, .pv (.int .i64 5))] [(2, 1, .cells s.cells), (6, 1, .cells [.pv (.int .i64 (nd s.f0 s.t0 h.m0)), .pv (.int .i64 (nd s.f1 s.t1 h.m1)), .pv (.int .i64 (nd s.f2 s.t2 h.m2)), .pv (.int .i64 (nd s.f3 s.t3 h.m3)), .pv (.int .i64 (nd s.f4 s.t4 h.m4))]), (29, 1, .arr 1 l.k fun i => .int .i64 (l.a i))] I := by
    intro l hk he
    have hr : fltL s h = l.addIf (decide (needS s h > s.tot)) 5 := by rw [← he]; simp only [flt]
    refine hI _ ?_
    refine condP (fun c => ?_) (fun c => ?_)
    · have c : decide (needS s h > s.tot) = true := c
      rw [c] at hr
      refine ⟨?_, ?_⟩
      · have hb8 : bounded (l.k + 1) (Nat.max Try.t3.bytes Try.t3.size) := show (l.k + 1) * 8 ≤ 70368744177664 by omega
        simp only [AllP]
        refine ⟨?_, ?_, ?_, ?_⟩ <;> first | exact hb8 | omega | rfl | trivial | (simp; done)
      rw [hr]
      refine ⟨by simp, rfl, rfl, fun j hj => ?_⟩
      simp only [Nat.zero_add, IL.addIf, cond_true, IL.add]; split <;> rfl
    · have c : decide (needS s h > s.tot) = false := c
      rw [c] at hr
      rw [hr]
      refine ⟨by simp, rfl, rfl, fun j hj => ?_⟩
      simp [IL.addIf]
  have r4 : ∀ l : IL, l.k ≤ 4 → flt s h l 4 = fltL s h → stK 39 [(2, .ptr 2 1 0), (4, .pv .nil), (5, .sl 29 1 1 0 l.k), (6, .ptr 6 1 0), (7, .pv (.int .i64 (needS s h))), (15, .pv (.int .i64 4))] [(2, 1, .cells s.cells), (6, 1, .cells [.pv (.int .i64 (nd s.f0 s.t0 h.m0)), .pv (.int .i64 (nd s.f1 s.t1 h.m1)), .pv (.int .i64 (nd s.f2 s.t2 h.m2)), .pv (.int .i64 (nd s.f3 s.t3 h.m3)), .pv (.int .i64 (nd s.f4 s.t4 h.m4))]), (29, 1, .arr 1 l.k fun i => .int .i64 (l.a i))] I := by
    intro l hk he
    refine hI _ ?_
    iterate 8 refine ⟨_, rfl, _, _, _, ⟨rfl, rfl, rfl⟩, ?_⟩
    refine ⟨by decide +kernel, ?_⟩
    refine ⟨by simp [AllP], ?_⟩
    refine condP (fun c => ?_) (fun c => ?_)
    · refine ⟨?_, ?_⟩
      · have hb8 : bounded (l.k + 1) (Nat.max Try.t3.bytes Try.t3.size) := show (l.k + 1) * 8 ≤ 70368744177664 by omega
        simp only [AllP]
        refine ⟨?_, ?_, ?_, ?_⟩ <;> first | exact hb8 | omega | rfl | trivial | (simp; done)
      refine ⟨wrap_small (by decide) (by decide), ?_⟩
      refine hle _ _ (le_of ?_) (r5 (l.add 4) (by simp only [IL.add]; omega) ?_)
      · repeat' (first | exact Same.refl _ | exact rfl | refine And.intro ?_ ?_ | (intro j hj; simp only [IL.add]; split <;> rfl))
      · rw [← he]; simp only [flt]
        have c : decide (nd s.f4 s.t4 h.m4 > s.b4) = true := c
        rw [c]; rfl
    · refine ⟨wrap_small (by decide) (by decide), ?_⟩
      refine hle _ _ (le_of ?_) (r5 l (by omega) ?_)
      · repeat' (first | exact Same.refl _ | exact rfl | refine And.intro ?_ ?_ | (intro j hj; rfl))
      · rw [← he]; simp only [flt]
        have c : decide (nd s.f4 s.t4 h.m4 > s.b4) = false := c
        rw [c]; rfl
  have r3 : ∀ l : IL, l.k ≤ 3 → flt s h l 3 = fltL s h → stK 39 [(2, .ptr 2 1 0), (4, .pv .nil), (5, .sl 29 1 1 0 l.k), (6, .ptr 6 1 0), (7, .pv (.int .i64 (needS s h))), (15, .pv (.int .i64 3))] [(2, 1, .cells s.cells), (6, 1, .cells [.pv (.int .i64 (nd s.f0 s.t0 h.m0)), .pv (.int .i64 (nd s.f1 s.t1 h.m1)), .pv (.int .i64 (nd s.f2 s.t2 h.m2)), .pv (.int .i64 (nd s.f3 s.t3 h.m3)), .pv (.int .i64 (nd s.f4 s.t4 h.m4))]), (29, 1, .arr 1 l.k fun i => .int .i64 (l.a i))] I := by
    intro l hk he
    refine hI _ ?_
    iterate 8 refine ⟨_, rfl, _, _, _, ⟨rfl, rfl, rfl⟩, ?_⟩
    refine ⟨by decide +kernel, ?_⟩
    refine ⟨by simp [AllP], ?_⟩
    refine condP (fun c => ?_) (fun c => ?_)
    · refine ⟨?_, ?_⟩
      · have hb8 : bounded (l.k + 1) (Nat.max Try.t3.bytes Try.t3.size) := show (l.k + 1) * 8 ≤ 70368744177664 by omega
        simp only [AllP]
        refine ⟨?_, ?_, ?_, ?_⟩ <;> first | exact hb8 | omega | rfl | trivial | (simp; done)
      refine ⟨wrap_small (by decide) (by decide), ?_⟩
      refine hle _ _ (le_of ?_) (r4 (l.add 3) (by simp only [IL.add]; omega) ?_)
      · repeat' (first | exact Same.refl _ | exact rfl | refine And.intro ?_ ?_ | (intro j hj; simp only [IL.add]; split <;> rfl))
      · rw [← he]; simp only [flt]
        have c : decide (nd s.f3 s.t3 h.m3 > s.b3) = true := c
        rw [c]; rfl
    · refine ⟨wrap_small (by decide) (by decide), ?_⟩
      refine hle _ _ (le_of ?_) (r4 l (by omega) ?_)
      · repeat' (first | exact Same.refl _ | exact rfl | refine And.intro ?_ ?_ | (intro j hj; rfl))
      · rw [← he]; simp only [flt]
        have c : decide (nd s.f3 s.t3 h.m3 > s.b3) = false := c
        rw [c]; rfl
  have r2 : ∀ l : IL, l.k ≤ 2 → flt s h l 2 = fltL s h → stK 39 [(2, .ptr 2 1 0), (4, .pv .nil), (5, .sl 29 1 1 0 l.k), (6, .ptr 6 1 0), (7, .pv (.int .i64 (needS s h))), (15, .pv (.int .i64 2))] [(2, 1, .cells s.cells), (6, 1, .cells [.pv (.int .i64 (nd s.f0 s.t0 h.m0)), .pv (.int .i64 (nd s.f1 s.t1 h.m1)), .pv (.int .i64 (nd s.f2 s.t2 h.m2)), .pv (.int .i64 (nd s.f3 s.t3 h.m3)), .pv (.int .i64 (nd s.f4 s.t4 h.m4))]), (29, 1, .arr 1 l.k fun i => .int .i64 (l.a i))] I := by
    intro l hk he
    refine hI _ ?_
    iterate 8 refine ⟨_, rfl, _, _, _, ⟨rfl, rfl, rfl⟩, ?_⟩
    refine ⟨by decide +kernel, ?_⟩
    refine ⟨by simp [AllP], ?_⟩
    refine condP (fun c => ?_) (fun c => ?_)
    · refine ⟨?_, ?_⟩
      · have hb8 : bounded (l.k + 1) (Nat.max Try.t3.bytes Try.t3.size) := show (l.k + 1) * 8 ≤ 70368744177664 by omega
        simp only [AllP]
        refine ⟨?_, ?_, ?_, ?_⟩ <;> first | exact hb8 | omega | rfl | trivial | (simp; done)
      refine ⟨wrap_small (by decide) (by decide), ?_⟩
      refine hle _ _ (le_of ?_) (r3 (l.add 2) (by simp only [IL.add]; omega) ?_)
      · repeat' (first | exact Same.refl _ | exact rfl | refine And.intro ?_ ?_ | (intro j hj; simp only [IL.add]; split <;> rfl))
      · rw [← he]; simp only [flt]
        have c : decide (nd s.f2 s.t2 h.m2 > s.b2) = true := c
        rw [c]; rfl
    · refine ⟨wrap_small (by decide) (by decide), ?_⟩
      refine hle _ _ (le_of ?_) (r3 l (by omega) ?_)
      · repeat' (first | exact Same.refl _ | exact rfl | refine And.intro ?_ ?_ | (intro j hj; rfl))
      · rw [← he]; simp only [flt]
        have c : decide (nd s.f2 s.t2 h.m2 > s.b2) = false := c
        rw [c]; rfl
  have r1 : ∀ l : IL, l.k ≤ 1 → flt s h l 1 = fltL s h → stK 39 [(2, .ptr 2 1 0), (4, .pv .nil), (5, .sl 29 1 1 0 l.k), (6, .ptr 6 1 0), (7, .pv (.int .i64 (needS s h))), (15, .pv (.int .i64 1))] [(2, 1, .cells s.cells), (6, 1, .cells [.pv (.int .i64 (nd s.f0 s.t0 h.m0)), .pv (.int .i64 (nd s.f1 s.t1 h.m1)), .pv (.int .i64 (nd s.f2 s.t2 h.m2)), .pv (.int .i64 (nd s.f3 s.t3 h.m3)), .pv (.int .i64 (nd s.f4 s.t4 h.m4))]), (29, 1, .arr 1 l.k fun i => .int .i64 (l.a i))] I := by
    intro l hk he
    refine hI _ ?_
    iterate 8 refine ⟨_, rfl, _, _, _, ⟨rfl, rfl, rfl⟩, ?_⟩
    refine ⟨by decide +kernel, ?_⟩
    refine ⟨by simp [AllP], ?_⟩
    refine condP (fun c => ?_) (fun c => ?_)
    · refine ⟨?_, ?_⟩
      · have hb8 : bounded (l.k + 1) (Nat.max Try.t3.bytes Try.t3.size) := show (l.k + 1) * 8 ≤ 70368744177664 by omega
        simp only [AllP]
        refine ⟨?_, ?_, ?_, ?_⟩ <;> first | exact hb8 | omega | rfl | trivial | (simp; done)
      refine ⟨wrap_small (by decide) (by decide), ?_⟩
      refine hle _ _ (le_of ?_) (r2 (l.add 1) (by simp only [IL.add]; omega) ?_)
      · repeat' (first | exact Same.refl _ | exact rfl | refine And.intro ?_ ?_ | (intro j hj; simp only [IL.add]; split <;> rfl))
      · rw [← he]; simp only [flt]
        have c : decide (nd s.f1 s.t1 h.m1 > s.b1) = true := c
        rw [c]; rfl
    · refine ⟨wrap_small (by decide) (by decide), ?_⟩
      refine hle _ _ (le_of ?_) (r2 l (by omega) ?_)
      · repeat' (first | exact Same.refl _ | exact rfl | refine And.intro ?_ ?_ | (intro j hj; rfl))
      · rw [← he]; simp only [flt]
        have c : decide (nd s.f1 s.t1 h.m1 > s.b1) = false := c
        rw [c]; rfl
  have r0 : ∀ l : IL, l.k ≤ 0 → flt s h l 0 = fltL s h → stK 39 [(2, .ptr 2 1 0), (4, .pv .nil), (5, .sl 29 1 1 0 l.k), (6, .ptr 6 1 0), (7, .pv (.int .i64 (needS s h))), (15, .pv (.int .i64 0))] [(2, 1, .cells s.cells), (6, 1, .cells [.pv (.int .i64 (nd s.f0 s.t0 h.m0)), .pv (.int .i64 (nd s.f1 s.t1 h.m1)), .pv (.int .i64 (nd s.f2 s.t2 h.m2)), .pv (.int .i64 (nd s.f3 s.t3 h.m3)), .pv (.int .i64 (nd s.f4 s.t4 h.m4))]), (29, 1, .arr 1 l.k fun i => .int .i64 (l.a i))] I := by
    intro l hk he
    refine hI _ ?_
    iterate 8 refine ⟨_, rfl, _, _, _, ⟨rfl, rfl, rfl⟩, ?_⟩
    refine ⟨by decide +kernel, ?_⟩
    refine ⟨by simp [AllP], ?_⟩
    refine condP (fun c => ?_) (fun c => ?_)
    · refine ⟨?_, ?_⟩
      · have hb8 : bounded (l.k + 1) (Nat.max Try.t3.bytes Try.t3.size) := show (l.k + 1) * 8 ≤ 70368744177664 by omega
        simp only [AllP]
        refine ⟨?_, ?_, ?_, ?_⟩ <;> first | exact hb8 | omega | rfl | trivial | (simp; done)
      refine ⟨wrap_small (by decide) (by decide), ?_⟩
      refine hle _ _ (le_of ?_) (r1 (l.add 0) (by simp only [IL.add]; omega) ?_)
      · repeat' (first | exact Same.refl _ | exact rfl | refine And.intro ?_ ?_ | (intro j hj; simp only [IL.add]; split <;> rfl))
      · rw [← he]; simp only [flt]
        have c : decide (nd s.f0 s.t0 h.m0 > s.b0) = true := c
        rw [c]; rfl
    · refine ⟨wrap_small (by decide) (by decide), ?_⟩
      refine hle _ _ (le_of ?_) (r1 l (by omega) ?_)
      · repeat' (first | exact Same.refl _ | exact rfl | refine And.intro ?_ ?_ | (intro j hj; rfl))
      · rw [← he]; simp only [flt]
        have c : decide (nd s.f0 s.t0 h.m0 > s.b0) = false := c
        rw [c]; rfl
  refine hle _ _ (le_of ?_) (r0 ⟨0, fun _ => 0⟩ (Nat.le_refl _) rfl)
  repeat' (first | exact Same.refl _ | exact rfl | refine And.intro ?_ ?_ | (intro j hj; exact absurd hj (Nat.not_lt_zero j)))
end Abs
