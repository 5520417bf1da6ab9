/- Walks: sizes and heads of layer 3, third part: lists of them. (Printed by wip/gen_walk3.py.) -/
import Derived.Test.YtabnianhpamofaaWalk2
set_option linter.unusedSectionVars false
set_option linter.unusedSimpArgs false
set_option linter.unusedVariables false
set_option maxRecDepth 100000
set_option maxHeartbeats 4000000
namespace Abs
open Go Go.Proofs
variable [DMode]

theorem f65_ok (l : Nat → Hd) (n : Nat) (hn : n ≤ 140737488355328) (g : FuncId) (p : Nat → Bool) (hg : ∀ i, i < n → Fn Try.prog g [(l i).enc] (.bool (p i))) :
    Fn Try.prog 65 [.slice 6 n (fun i => (l i).enc), .fn g []] (.int .i64 (idxF p 0 n)) := by
  refine fn_of (m := {}) (k := 17) fol Try.func65 rfl rfl ?_
  refine loopN_intro fun I hle hI => ?_
  have key : ∀ i, i ≤ n → idxF p 0 n = idxF p i (n - i) → stK 19 [(0, .pv (.slice 6 n (fun i => (l i).enc))), (1, .pv (.fn g [])), (4, .pv (.int .i64 0)), (7, .pv (.int .i64 n)), (8, .pv (.int .i64 i))] [] I := by
    refine up_ind n fun i hi ih he => ?_
    refine hI _ ?_
    refine condP (fun hc => ?_) (fun hc => ?_)
    · have hlt : i < n := by simpa using hc
      refine ⟨?_, ?_⟩
      · simp [AllP]; omega
      refine callN_pure _ _ _ ⟨rfl, rfl⟩ (hg i hlt) rfl ?_
      refine condP (fun hp => ?_) (fun hp => ?_)
      · refine congrArg (PV.int IntKind.i64) ?_
        rw [he, show n - i = (n - i - 1) + 1 by omega, idxF, if_pos hp]
      · refine ⟨wrap_small (by omega) (by omega), ?_⟩
        refine hle _ _ (le_of ?_) (ih (i + 1) (Nat.lt_succ_self i) hlt ?_)
        · exact ⟨rfl, rfl, rfl, rfl, Same.refl _⟩
        · rw [he, show n - i = (n - i - 1) + 1 by omega, idxF, if_neg (by rw [hp]; simp)]
          rfl
    · refine congrArg (PV.int IntKind.i64) ?_
      have : i = n := by simp at hc; omega
      rw [he, this, Nat.sub_self]
      rfl
  refine hle _ _ (le_of ?_) (key 0 (Nat.zero_le _) rfl)
  exact ⟨rfl, rfl, rfl, rfl, Same.refl _⟩

theorem f63_ok (l : Nat → Int) (n : Nat) (hn : n ≤ 140737488355328) (g : FuncId) (p : Nat → Bool) (hg : ∀ i, i < n → Fn Try.prog g [(PV.int .i64 (l i))] (.bool (p i))) :
    Fn Try.prog 63 [.slice 1 n (fun i => (PV.int .i64 (l i))), .fn g []] (.int .i64 (idxF p 0 n)) := by
  refine fn_of (m := {}) (k := 17) fol Try.func63 rfl rfl ?_
  refine loopN_intro fun I hle hI => ?_
  have key : ∀ i, i ≤ n → idxF p 0 n = idxF p i (n - i) → stK 19 [(0, .pv (.slice 1 n (fun i => (PV.int .i64 (l i))))), (1, .pv (.fn g [])), (4, .pv (.int .i64 0)), (7, .pv (.int .i64 n)), (8, .pv (.int .i64 i))] [] I := by
    refine up_ind n fun i hi ih he => ?_
    refine hI _ ?_
    refine condP (fun hc => ?_) (fun hc => ?_)
    · have hlt : i < n := by simpa using hc
      refine ⟨?_, ?_⟩
      · simp [AllP]; omega
      refine callN_pure _ _ _ ⟨rfl, rfl⟩ (hg i hlt) rfl ?_
      refine condP (fun hp => ?_) (fun hp => ?_)
      · refine congrArg (PV.int IntKind.i64) ?_
        rw [he, show n - i = (n - i - 1) + 1 by omega, idxF, if_pos hp]
      · refine ⟨wrap_small (by omega) (by omega), ?_⟩
        refine hle _ _ (le_of ?_) (ih (i + 1) (Nat.lt_succ_self i) hlt ?_)
        · exact ⟨rfl, rfl, rfl, rfl, Same.refl _⟩
        · rw [he, show n - i = (n - i - 1) + 1 by omega, idxF, if_neg (by rw [hp]; simp)]
          rfl
    · refine congrArg (PV.int IntKind.i64) ?_
      have : i = n := by simp at hc; omega
      rw [he, this, Nat.sub_self]
      rfl
  refine hle _ _ (le_of ?_) (key 0 (Nat.zero_le _) rfl)
  exact ⟨rfl, rfl, rfl, rfl, Same.refl _⟩

def anyF (p : Nat → Bool) (n : Nat) : Bool := decide (idxF p 0 n ≥ 0)

theorem f50_ok (l : Nat → Sz) (n : Nat) (hn : n ≤ 140737488355328) (g : FuncId) (p : Nat → Bool) (hg : ∀ i, i < n → Fn Try.prog g [(l i).enc] (.bool (p i))) :
    Fn Try.prog 50 [.slice 17 n (fun i => (l i).enc), .fn g []] (.bool (anyF p n)) := by
  refine fn_of (m := {}) (k := 7) fol Try.func50 rfl rfl ?_
  refine callN_pure _ _ _ ⟨rfl, rfl⟩ (f64_ok l n hn g p hg) rfl ?_
  exact rfl

theorem f54_ok (l : Nat → Hd) (n : Nat) (hn : n ≤ 140737488355328) (g : FuncId) (p : Nat → Bool) (hg : ∀ i, i < n → Fn Try.prog g [(l i).enc] (.bool (p i))) :
    Fn Try.prog 54 [.slice 6 n (fun i => (l i).enc), .fn g []] (.bool (anyF p n)) := by
  refine fn_of (m := {}) (k := 7) fol Try.func54 rfl rfl ?_
  refine callN_pure _ _ _ ⟨rfl, rfl⟩ (f65_ok l n hn g p hg) rfl ?_
  exact rfl

theorem f42_ok (l : Nat → Int) (n : Nat) (hn : n ≤ 140737488355328) (g : FuncId) (p : Nat → Bool) (hg : ∀ i, i < n → Fn Try.prog g [(PV.int .i64 (l i))] (.bool (p i))) :
    Fn Try.prog 42 [.slice 1 n (fun i => (PV.int .i64 (l i))), .fn g []] (.bool (anyF p n)) := by
  refine fn_of (m := {}) (k := 7) fol Try.func42 rfl rfl ?_
  refine callN_pure _ _ _ ⟨rfl, rfl⟩ (f63_ok l n hn g p hg) rfl ?_
  exact rfl

theorem f51_ok (s : Sz) : Fn Try.prog 51 [s.enc] (.bool (!s.okb)) := by
  refine fn_of (m := {}) (k := 5) fol Try.func51 rfl rfl ?_
  refine callN_pure _ _ _ ⟨rfl, rfl⟩ (f26_ok s) rfl ?_
  exact rfl
theorem f53_ok (s : Sz) : Fn Try.prog 53 [s.enc] (.int .i64 s.code) := by
  refine fn_of (m := {}) (k := 4) fol Try.func53 rfl rfl ?_
  exact rfl
theorem f58_ok (s : Hd) : Fn Try.prog 58 [s.enc] (.int .i64 s.num) := by
  refine fn_of (m := {}) (k := 4) fol Try.func58 rfl rfl ?_
  exact rfl
theorem f66_ok (a : Int) : Fn Try.prog 66 [.int .i64 a] (.bool (!btw 0 a 3000)) := by
  refine fn_of (m := {}) (k := 5) fol Try.func66 rfl rfl ?_
  refine callN_pure _ _ _ ⟨rfl, rfl⟩ (f27_ok _ _ _) rfl ?_
  exact rfl
def Hd.m (h : Hd) : Nat → Int
  | 0 => h.m0
  | 1 => h.m1
  | 2 => h.m2
  | 3 => h.m3
  | _ => h.m4
def Hd.okb (h : Hd) : Bool := btw 1 h.num 1000000000 && !anyF (fun i => !btw 0 (h.m i) 3000) 5
theorem f56_ok (h : Hd) : Fn Try.prog 56 [h.enc] (.bool h.okb) := by
  refine fn_of (m := {}) (k := 11) fol Try.func56 rfl rfl ?_
  refine callN_pure _ _ _ ⟨rfl, rfl⟩ (f27_ok _ _ _) rfl ?_
  refine ⟨_, fun _ => (f42_ok h.m 5 (by decide) 66 (fun i => !btw 0 (h.m i) 3000) (fun i _ => f66_ok (h.m i))).args ?_, ?_⟩
  · refine ⟨⟨rfl, rfl, ?_⟩, rfl⟩
    intro i hi
    match i, hi with
    | 0, _ => rfl
    | 1, _ => rfl
    | 2, _ => rfl
    | 3, _ => rfl
    | 4, _ => rfl
  refine ⟨by simp [AllP, under], ?_⟩
  refine congrArg PV.bool ?_
  simp only [Hd.okb, cond_false]
theorem f55_ok (s : Hd) : Fn Try.prog 55 [s.enc] (.bool (!s.okb)) := by
  refine fn_of (m := {}) (k := 5) fol Try.func55 rfl rfl ?_
  refine callN_pure _ _ _ ⟨rfl, rfl⟩ (f56_ok s) rfl ?_
  exact rfl
end Abs
