/- Walks: slices.Sorted(slices.Values(l)), last.values. -/
import Derived.Test.YtabnianhpamofaaIt2
import Derived.Test.YtabnianhpamofaaWalk4
set_option linter.unusedSectionVars false
set_option linter.unusedSimpArgs false
set_option linter.unusedVariables false
set_option maxRecDepth 100000
set_option maxHeartbeats 4000000
namespace Abs
open Go Go.Proofs
variable [DMode]
def sortedF (f : Nat → Int) (n : Nat) : Nat → Int := fun i => (sortL (rowL f n)).getD i 0
theorem sortL_len (f : Nat → Int) (n : Nat) : (sortL (rowL f n)).length = n := by rw [sortL, List.length_mergeSort, rowL_length]
theorem f61_ok (f : Nat → Int) (n : Nat) : Fn Try.prog 61 [.slice 1 n (intsPV f)] (.fn 69 [.box [.slice 1 n (intsPV f)]]) := by
  refine fn_of (m := {}) (k := Try.f61.ntmps - 1) fol Try.func61 rfl rfl ?_
  exact rfl
theorem f60_ok (hd : DMode.d = false) (f : Nat → Int) (n : Nat) (hn : n ≤ 17592186044415) :
    Fn Try.prog 60 [.fn 69 [.box [.slice 1 n (intsPV f)]]] (.slice 1 n (intsPV (sortedF f n))) := by
  refine fn_of (m := {}) (k := Try.f60.ntmps - 1) fol Try.func60 rfl rfl ?_
  refine callN_new 5 _ false ⟨rfl, rfl⟩ (collect_values hd f n hn) ?_
  refine callN_row 5 1 1 n (intsPV f) [] ⟨rfl, rfl⟩ (sort_row f n) ⟨rfl, rfl⟩ (fun _ _ => rfl) (fun g' hp => ?_)
  obtain ⟨f', rfl, hf⟩ := hp
  refine ⟨?_, ?_⟩
  · omega
  refine ⟨rfl, rfl, fun i hi => ?_⟩
  have := congrArg (fun l => List.getD l i 0) hf
  simp only [rowL_get f' n i hi] at this
  simp only [Nat.zero_add, intsPV, this, sortedF]

theorem f59_ok (a : Int) : Fn Try.prog 59 [.int .i64 a] (.bool (!btw (-1000000) a 1000000)) := by
  refine fn_of (m := {}) (k := 5) fol Try.func59 rfl rfl ?_
  refine callN_pure _ _ _ ⟨rfl, rfl⟩ (f27_ok _ _ _) rfl ?_
  exact rfl
def valsE (f : Nat → Int) (n : Nat) (w : Int) : Int := if (n : Int) > 200 then 4 else if (!btw 0 w 1000000 || anyF (fun i => !btw (-1000000) (f i) 1000000) n) then 2 else 0
def valsR (f : Nat → Int) (n : Nat) (w : Int) : PV := if valsE f n w = 0 then .tup [.slice 1 n (intsPV (sortedF f n)), .int .i64 0] else .tup [.nil, .int .i64 (valsE f n w)]
theorem f39_ok (hd : DMode.d = false) (f : Nat → Int) (n : Nat) (hn : n ≤ 140737488355328) (w : Int) : Fn Try.prog 39 [.slice 1 n (intsPV f), .int .i64 w] (valsR f n w) := by
  refine fn_of (m := {}) (k := Try.f39.ntmps - 2) fol Try.func39 rfl rfl ?_
  unfold valsR valsE
  refine condP (fun c1 => ?_) (fun c1 => ?_)
  · have c1 : (n : Int) > 200 := by simpa using c1
    rw [if_pos c1]
    exact ⟨rfl, rfl⟩
  · have c1 : ¬ (n : Int) > 200 := by simpa using c1
    rw [if_neg c1]
    refine callN_pure _ _ _ ⟨rfl, rfl⟩ (f27_ok _ _ _) rfl ?_
    refine ⟨_, fun _ => f42_ok f n hn 59 _ (fun i _ => f59_ok (f i)), ?_⟩
    refine ⟨by simp [AllP, under], ?_⟩
    refine condP (fun c2 => ?_) (fun c2 => ?_)
    · rw [cond_true'] at c2
      rw [if_pos c2]
      exact ⟨rfl, rfl⟩
    · rw [cond_true'] at c2
      rw [c2]
      refine callN_pure _ _ _ ⟨rfl, rfl⟩ (f61_ok f n) rfl ?_
      refine callN_pure _ _ _ ⟨rfl, rfl⟩ (f60_ok hd f n (by omega)) rfl ?_
      exact ⟨⟨rfl, rfl, fun _ _ => rfl⟩, rfl⟩
end Abs
