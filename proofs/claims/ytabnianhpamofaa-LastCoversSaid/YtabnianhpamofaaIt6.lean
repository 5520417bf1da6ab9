/- The sanity check of the statements of layer 3; LastNeeds. -/
import Derived.Test.YtabnianhpamofaaIt5
import Derived.Test.YtabnianhpamofaaWalk12
set_option linter.unusedSectionVars false
set_option linter.unusedSimpArgs false
set_option linter.unusedVariables false
set_option maxRecDepth 100000
set_option maxHeartbeats 4000000
namespace Abs
open Go Go.Proofs
variable [DMode]
def wakeF : Nat → Int
  | 0 => 1 | 1 => 2 | 2 => 4 | 3 => 7 | _ => 8
def wakeG : Nat → Int
  | 0 => 1 | _ => 5
theorem wake_stab : stabR wakeF 5 3 = .tup [.slice 1 2 (intsPV fun i => (stabs 3 (sortedF wakeF 5) 5 5).a (2 - 1 - i)), .int .i64 0] ∧ ∀ i, i < 2 → (stabs 3 (sortedF wakeF 5) 5 5).a (2 - 1 - i) = wakeG i := by
  have hs : sortL (rowL wakeF 5) = [1, 2, 4, 7, 8] := by
    have : rowL wakeF 5 = [1, 2, 4, 7, 8] := rfl
    rw [this, sortL]; exact List.mergeSort_of_pairwise (by decide)
  have hv : valsE wakeF 5 3 = 0 := by decide +kernel
  have hk : (stabs 3 (fun i => [1, 2, 4, 7, 8].getD i 0) 5 5).k = 2 := by decide +kernel
  have ha : ∀ i, i < 2 → (stabs 3 (fun i => [1, 2, 4, 7, 8].getD i 0) 5 5).a (2 - 1 - i) = wakeG i := by decide +kernel
  have hf : sortedF wakeF 5 = fun i => [1, 2, 4, 7, 8].getD i 0 := by funext i; unfold sortedF; rw [hs]
  unfold stabR
  rw [if_pos hv, hf, hk]
  exact ⟨rfl, ha⟩
theorem f13_ok (hd : DMode.d = false) : Fn Try.prog 13 [] (.bool true) := by
  refine fn_of (m := { cz := [(5, 4)] }) (k := Try.f13.ntmps) fol Try.func13 rfl rfl ?_
  refine ⟨by decide, ?_⟩
  refine callN_pure _ _ _ ⟨rfl, rfl⟩ (((f25_ok hd wakeF 5 (by decide) 3).args ?_).res (r' := .tup [.slice 1 2 (intsPV wakeG), .int .i64 0]) ?_) rfl ?_
  · refine ⟨⟨rfl, rfl, fun i hi => ?_⟩, rfl⟩
    match i, hi with
    | 0, _ => rfl
    | 1, _ => rfl
    | 2, _ => rfl
    | 3, _ => rfl
    | 4, _ => rfl
  · rw [wake_stab.1]
    exact ⟨⟨rfl, rfl, fun i hi => congrArg (PV.int .i64) (wake_stab.2 i hi)⟩, rfl⟩
  refine ⟨rfl, ?_⟩
  refine ⟨by decide, _, fun _ => (f12_ok wakeG wakeG 2 2 (by decide)).args ?_, ?_⟩
  · refine ⟨⟨rfl, rfl, fun _ _ => rfl⟩, ⟨rfl, rfl, fun i hi => ?_⟩⟩
    match i, hi with
    | 0, _ => rfl
    | 1, _ => rfl
  refine ⟨by simp [AllP, under], ?_⟩
  refine congrArg PV.bool ?_
  decide
theorem sameF_refl (a : Nat → Int) : ∀ k i, sameF a a i k = true
  | 0, _ => rfl
  | k + 1, i => by simp [sameF, sameF_refl a k (i + 1)]
def nq (s : Sz) (h : Hd) (x : Int) : Int := if single s h = 0 then x else 0
theorem needR_eq (s : Sz) (h : Hd) : needR s h = .tup [.agg [.int .i64 (nq s h (nd s.f0 s.t0 h.m0)), .int .i64 (nq s h (nd s.f1 s.t1 h.m1)), .int .i64 (nq s h (nd s.f2 s.t2 h.m2)), .int .i64 (nq s h (nd s.f3 s.t3 h.m3)), .int .i64 (nq s h (nd s.f4 s.t4 h.m4))], .int .i64 (single s h)] := by
  unfold needR nq
  by_cases h1 : single s h = 0
  · simp [h1, needA]
  · simp [h1]
theorem addIf_le (l : IL) (c : Bool) (x : Int) : (l.addIf c x).k ≤ l.k + 1 := by
  unfold IL.addIf IL.add
  cases c <;> simp
theorem fltL_le (s : Sz) (h : Hd) : (fltL s h).k ≤ 6 := by
  unfold fltL
  simp only [flt]
  refine Nat.le_trans (addIf_le _ _ _) (Nat.succ_le_succ ?_)
  refine Nat.le_trans (addIf_le _ _ _) (Nat.succ_le_succ ?_)
  refine Nat.le_trans (addIf_le _ _ _) (Nat.succ_le_succ ?_)
  refine Nat.le_trans (addIf_le _ _ _) (Nat.succ_le_succ ?_)
  refine Nat.le_trans (addIf_le _ _ _) (Nat.succ_le_succ ?_)
  exact addIf_le _ _ _
theorem fltR_le (s : Sz) (h : Hd) : (fltR s h).k ≤ 6 := by
  unfold fltR
  split
  · exact fltL_le s h
  · exact Nat.zero_le _
theorem f3_ok (hd : DMode.d = false) (s : Sz) (h : Hd) : Fn Try.prog 3 [s.enc, h.enc] (.bool true) := by
  have h6 := f6_ok s h
  have h7 := f7_ok s h
  rw [needR_eq] at h6 h7
  refine fn_of (m := {}) (k := Try.f3.ntmps - 2) fol Try.func3 rfl rfl ?_
  refine callN_pure _ _ _ ⟨rfl, rfl⟩ h6 rfl ?_
  refine callN_pure _ _ _ ⟨rfl, rfl⟩ h7 rfl ?_
  refine ⟨?_, ?_⟩
  · simp [AllP]
    decide +kernel
  refine condP (fun c => ?_) (fun c => ?_)
  · simp at c
  refine callN_pure _ _ _ ⟨rfl, rfl⟩ (f8_ok s h) rfl ?_
  refine callN_pure _ _ _ ⟨rfl, rfl⟩ (f9_ok s h) rfl ?_
  refine callN_pure _ _ _ ⟨rfl, rfl⟩ (f10_ok s h) rfl ?_
  refine callN_pure _ _ _ ⟨rfl, rfl⟩ (f11_ok s h) rfl ?_
  refine ⟨_, fun _ => f12_ok (fltR s h).a (fltR s h).a (fltR s h).k (fltR s h).k ?_, ?_⟩
  · have := fltR_le s h; omega
  refine ⟨_, fun _ => f13_ok hd, ?_⟩
  refine ⟨?_, ?_⟩
  · simp [AllP, under, beqBool_eq, sameF_refl]
  refine congrArg PV.bool ?_
  simp [sameF_refl, beqBool_eq, fitsB, cond_false]
end Abs
