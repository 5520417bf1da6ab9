/- Walks: sizes and heads of layer 3. -/
import Derived.Test.YtabnianhpamofaaAbs21
import Derived.Test.YtabnianhpamofaaProg
set_option linter.unusedSectionVars false
set_option linter.unusedSimpArgs false
set_option linter.unusedVariables false
set_option maxRecDepth 100000
set_option maxHeartbeats 4000000
namespace Abs
open Go Go.Proofs
variable [DMode]
theorem fol : Try.prog.follows .mixedOrders = true := by decide +kernel
def pint (n : Int) : PV := .int .i64 n
/-- A size. -/
structure Sz where
  code : Int
  f0 : Int
  f1 : Int
  f2 : Int
  f3 : Int
  f4 : Int
  t0 : Int
  t1 : Int
  t2 : Int
  t3 : Int
  t4 : Int
  b0 : Int
  b1 : Int
  b2 : Int
  b3 : Int
  b4 : Int
  tot : Int
def Sz.enc (s : Sz) : PV := .agg [.int .i64 s.code, .int .i64 s.f0, .int .i64 s.f1, .int .i64 s.f2, .int .i64 s.f3, .int .i64 s.f4, .int .i64 s.t0, .int .i64 s.t1, .int .i64 s.t2, .int .i64 s.t3, .int .i64 s.t4,
  .int .i64 s.b0, .int .i64 s.b1, .int .i64 s.b2, .int .i64 s.b3, .int .i64 s.b4, .int .i64 s.tot]
structure Hd where
  num : Int
  m0 : Int
  m1 : Int
  m2 : Int
  m3 : Int
  m4 : Int
def Hd.enc (h : Hd) : PV := .agg [.int .i64 h.num, .int .i64 h.m0, .int .i64 h.m1, .int .i64 h.m2, .int .i64 h.m3, .int .i64 h.m4]

def btw (a b c : Int) : Bool := cond (decide (a ≤ b)) (decide (b ≤ c)) false
theorem f27_ok (a b c : Int) : Fn Try.prog 27 [.int .i64 a, .int .i64 b, .int .i64 c] (.bool (btw a b c)) := by
  refine fn_of (m := {}) (k := 12) fol Try.func27 rfl rfl ?_
  refine ⟨?_, ?_⟩
  · simp [AllP]
  · exact rfl

/-- The first index at which something holds. -/
def idxF (p : Nat → Bool) : Nat → Nat → Int
  | _, 0 => -1
  | i, k + 1 => if p i then (i : Int) else idxF p (i + 1) k
theorem wrap_small {n : Int} (h1 : -9223372036854775808 ≤ n) (h2 : n ≤ 9223372036854775807) : IntKind.i64.wrap n = n := by rw [IntKind.wrap_i64]; omega

theorem f64_ok (l : Nat → Sz) (n : Nat) (hn : n ≤ 140737488355328) (g : FuncId) (p : Nat → Bool) (hg : ∀ i, i < n → Fn Try.prog g [(l i).enc] (.bool (p i))) :
    Fn Try.prog 64 [.slice 17 n (fun i => (l i).enc), .fn g []] (.int .i64 (idxF p 0 n)) := by
  refine fn_of (m := {}) (k := 17) fol Try.func64 rfl rfl ?_
  refine loopN_intro fun I hle hI => ?_
  have key : ∀ i, i ≤ n → idxF p 0 n = idxF p i (n - i) → stK 19 [(0, .pv (.slice 17 n (fun i => (l i).enc))), (1, .pv (.fn g [])), (4, .pv (.int .i64 0)), (7, .pv (.int .i64 n)), (8, .pv (.int .i64 i))] [] I := by
    refine up_ind n fun i hi ih he => ?_
    refine hI _ ?_
    refine condP (fun hc => ?_) (fun hc => ?_)
    · have hlt : i < n := by simpa using hc
      refine ⟨?_, ?_⟩
      · simp [AllP]; omega
      refine callN_pure _ _ _ ⟨rfl, rfl⟩ (hg i hlt) rfl ?_
      refine condP (fun hp => ?_) (fun hp => ?_)
      · refine congrArg (PV.int IntKind.i64) ?_
        rw [he, show n - i = (n - i - 1) + 1 by omega, idxF, if_pos hp]
      · refine ⟨wrap_small (by omega) (by omega), ?_⟩
        refine hle _ _ (le_of ?_) (ih (i + 1) (Nat.lt_succ_self i) hlt ?_)
        · exact ⟨rfl, rfl, rfl, rfl, Same.refl _⟩
        · rw [he, show n - i = (n - i - 1) + 1 by omega, idxF, if_neg (by rw [hp]; simp)]
          rfl
    · refine congrArg (PV.int IntKind.i64) ?_
      have : i = n := by simp at hc; omega
      rw [he, this, Nat.sub_self]
      rfl
  refine hle _ _ (le_of ?_) (key 0 (Nat.zero_le _) rfl)
  exact ⟨rfl, rfl, rfl, rfl, Same.refl _⟩
end Abs
