/- Walks: layer 3, fourth part: lists without a number twice; valid lists. (Printed by wip/gen_walk4.py.) -/
import Derived.Test.YtabnianhpamofaaWalk3
set_option linter.unusedSectionVars false
set_option linter.unusedSimpArgs false
set_option linter.unusedVariables false
set_option maxRecDepth 100000
set_option maxHeartbeats 4000000
namespace Abs
open Go Go.Proofs
variable [DMode]
def mapEs (num : Nat → Int) (i : Nat) : List (PV × PV) := (List.range i).map fun j => (PV.int .i64 (num j), PV.bool true)
def seenB (num : Nat → Int) (i : Nat) (x : Int) : Bool := (List.range i).any fun j => decide (x = num j)
/-- No number comes twice, from the i-th on. -/
def disF (num : Nat → Int) : Nat → Nat → Bool
  | _, 0 => true
  | i, k + 1 => !seenB num i (num i) && disF num (i + 1) k
theorem like_es (num : Nat → Int) (i : Nat) (x : Int) : likeAll (.int .i64 x) (mapEs num i) := by
  simp [likeAll, mapEs, likeKey, like0, kEq, kNum]
theorem look_list (num : Nat → Int) (x : Int) : ∀ l : List Nat, (mlook (l.map fun j => (PV.int .i64 (num j), PV.bool true)) (.int .i64 x)).getD (.bool false) = .bool (l.any fun j => decide (x = num j))
  | [] => rfl
  | j :: l => by
    simp only [List.map_cons, mlook, keyEq, keyEq0, List.any_cons]
    by_cases h : x = num j
    · simp [h]
    · simp [h, look_list num x l]
theorem look_es (num : Nat → Int) (i : Nat) (x : Int) : (mlook (mapEs num i) (.int .i64 x)).getD (.bool false) = .bool (seenB num i x) := look_list num x _
theorem set_list (num : Nat → Int) (x : Int) : ∀ l : List Nat, (l.any fun j => decide (x = num j)) = false →
    mset (l.map fun j => (PV.int .i64 (num j), PV.bool true)) (.int .i64 x) (.bool true) = (l.map fun j => (PV.int .i64 (num j), PV.bool true)) ++ [(.int .i64 x, .bool true)]
  | [], _ => rfl
  | j :: l, h => by
    simp only [List.any_cons, Bool.or_eq_false_iff, decide_eq_false_iff_not] at h
    simp only [List.map_cons, mset, keyEq, keyEq0, h.1, decide_false, Bool.false_eq_true, if_false, set_list num x l h.2, List.cons_append]
theorem set_es (num : Nat → Int) (i : Nat) (h : seenB num i (num i) = false) : mset (mapEs num i) (.int .i64 (num i)) (.bool true) = mapEs num (i + 1) := by
  have := set_list num (num i) (List.range i) h
  simp only [mapEs, List.range_succ, List.map_append, List.map_cons, List.map_nil]
  exact this

theorem f52_ok (l : Nat → Sz) (n : Nat) (hn : n ≤ 140737488355328) (g : FuncId) (num : Nat → Int) (hg : ∀ i, i < n → Fn Try.prog g [(l i).enc] (.int .i64 (num i))) :
    Fn Try.prog 52 [.slice 17 n (fun i => (l i).enc), .fn g []] (.bool (disF num 0 n)) := by
  refine fn_of (m := {}) (k := 23) fol Try.func52 rfl rfl ?_
  refine loopN_intro fun I hle hI => ?_
  have key : ∀ i, i ≤ n → disF num 0 n = disF num i (n - i) → stK 25 [(0, .pv (.slice 17 n (fun i => (l i).enc))), (1, .pv (.fn g [])), (4, .pv (.bool false)), (5, .mp 8 1), (9, .pv (.slice 17 n (fun i => (l i).enc))), (10, .pv (.int .i64 n)), (11, .pv (.int .i64 i))] [(8, 1, .map (mapEs num i))] I := by
    refine up_ind n fun i hi ih he => ?_
    refine hI _ ?_
    refine condP (fun hc => ?_) (fun hc => ?_)
    · have hlt : i < n := by simpa using hc
      refine ⟨?_, ?_⟩
      · simp [AllP]; omega
      refine callN_pure _ _ _ ⟨rfl, rfl⟩ (hg i hlt) rfl ?_
      refine ⟨_, look_es _ _ _, ?_⟩
      refine ⟨like_es _ _ _, ?_⟩
      refine condP (fun hp => ?_) (fun hp => ?_)
      · refine congrArg PV.bool ?_
        rw [he, show n - i = (n - i - 1) + 1 by omega, disF, hp]
        rfl
      · refine callN_pure _ _ _ ⟨rfl, rfl⟩ (hg i hlt) rfl ?_
        refine ⟨like_es _ _ _, ?_⟩
        refine ⟨wrap_small (by omega) (by omega), ?_⟩
        refine hle _ _ (le_of ?_) (ih (i + 1) (Nat.lt_succ_self i) hlt ?_)
        · exact ⟨set_es num i hp, by repeat' (first | exact Same.refl _ | exact rfl | refine And.intro ?_ ?_)⟩
        · rw [he, show n - i = (n - i - 1) + 1 by omega, disF, hp]
          rfl
    · refine congrArg PV.bool ?_
      have : i = n := by simp at hc; omega
      rw [he, this, Nat.sub_self]
      rfl
  refine hle _ _ (le_of ?_) (key 0 (Nat.zero_le _) rfl)
  repeat' (first | exact Same.refl _ | exact rfl | refine And.intro ?_ ?_)

theorem f57_ok (l : Nat → Hd) (n : Nat) (hn : n ≤ 140737488355328) (g : FuncId) (num : Nat → Int) (hg : ∀ i, i < n → Fn Try.prog g [(l i).enc] (.int .i64 (num i))) :
    Fn Try.prog 57 [.slice 6 n (fun i => (l i).enc), .fn g []] (.bool (disF num 0 n)) := by
  refine fn_of (m := {}) (k := 23) fol Try.func57 rfl rfl ?_
  refine loopN_intro fun I hle hI => ?_
  have key : ∀ i, i ≤ n → disF num 0 n = disF num i (n - i) → stK 25 [(0, .pv (.slice 6 n (fun i => (l i).enc))), (1, .pv (.fn g [])), (4, .pv (.bool false)), (5, .mp 8 1), (9, .pv (.slice 6 n (fun i => (l i).enc))), (10, .pv (.int .i64 n)), (11, .pv (.int .i64 i))] [(8, 1, .map (mapEs num i))] I := by
    refine up_ind n fun i hi ih he => ?_
    refine hI _ ?_
    refine condP (fun hc => ?_) (fun hc => ?_)
    · have hlt : i < n := by simpa using hc
      refine ⟨?_, ?_⟩
      · simp [AllP]; omega
      refine callN_pure _ _ _ ⟨rfl, rfl⟩ (hg i hlt) rfl ?_
      refine ⟨_, look_es _ _ _, ?_⟩
      refine ⟨like_es _ _ _, ?_⟩
      refine condP (fun hp => ?_) (fun hp => ?_)
      · refine congrArg PV.bool ?_
        rw [he, show n - i = (n - i - 1) + 1 by omega, disF, hp]
        rfl
      · refine callN_pure _ _ _ ⟨rfl, rfl⟩ (hg i hlt) rfl ?_
        refine ⟨like_es _ _ _, ?_⟩
        refine ⟨wrap_small (by omega) (by omega), ?_⟩
        refine hle _ _ (le_of ?_) (ih (i + 1) (Nat.lt_succ_self i) hlt ?_)
        · exact ⟨set_es num i hp, by repeat' (first | exact Same.refl _ | exact rfl | refine And.intro ?_ ?_)⟩
        · rw [he, show n - i = (n - i - 1) + 1 by omega, disF, hp]
          rfl
    · refine congrArg PV.bool ?_
      have : i = n := by simp at hc; omega
      rw [he, this, Nat.sub_self]
      rfl
  refine hle _ _ (le_of ?_) (key 0 (Nat.zero_le _) rfl)
  repeat' (first | exact Same.refl _ | exact rfl | refine And.intro ?_ ?_)

def validSzs (l : Nat → Sz) (n : Nat) : Bool := decide ((n : Int) ≤ 20) && (!anyF (fun i => !(l i).okb) n && disF (fun i => (l i).code) 0 n)
def validHds (l : Nat → Hd) (n : Nat) : Bool := decide ((n : Int) ≤ 40) && (!anyF (fun i => !(l i).okb) n && disF (fun i => (l i).num) 0 n)
theorem f35_ok (l : Nat → Sz) (n : Nat) (hn : n ≤ 140737488355328) : Fn Try.prog 35 [.slice 17 n (fun i => (l i).enc)] (.bool (validSzs l n)) := by
  refine fn_of (m := {}) (k := 14) fol Try.func35 rfl rfl ?_
  refine ⟨_, fun _ => f50_ok l n hn 51 (fun i => !(l i).okb) (fun i _ => f51_ok (l i)), ?_⟩
  refine ⟨_, fun _ => f52_ok l n hn 53 (fun i => (l i).code) (fun i _ => f53_ok (l i)), ?_⟩
  refine ⟨by simp [AllP, under], ?_⟩
  refine congrArg PV.bool ?_
  simp only [validSzs, cond_false, Bool.and_assoc]
theorem f36_ok (l : Nat → Hd) (n : Nat) (hn : n ≤ 140737488355328) : Fn Try.prog 36 [.slice 6 n (fun i => (l i).enc)] (.bool (validHds l n)) := by
  refine fn_of (m := {}) (k := 14) fol Try.func36 rfl rfl ?_
  refine ⟨_, fun _ => f54_ok l n hn 55 (fun i => !(l i).okb) (fun i _ => f55_ok (l i)), ?_⟩
  refine ⟨_, fun _ => f57_ok l n hn 58 (fun i => (l i).num) (fun i _ => f58_ok (l i)), ?_⟩
  refine ⟨by simp [AllP, under], ?_⟩
  refine congrArg PV.bool ?_
  simp only [validHds, cond_false, Bool.and_assoc]
def checkE (l : Nat → Sz) (n : Nat) (k : Nat → Hd) (m : Nat) : Int := if validSzs l n then (if validHds k m then 0 else 30) else 31
theorem f19_ok (l : Nat → Sz) (n : Nat) (hn : n ≤ 140737488355328) (k : Nat → Hd) (m : Nat) (hm : m ≤ 140737488355328) :
    Fn Try.prog 19 [.slice 17 n (fun i => (l i).enc), .slice 6 m (fun i => (k i).enc)] (.int .i64 (checkE l n k m)) := by
  refine fn_of (m := {}) (k := 11) fol Try.func19 rfl rfl ?_
  refine callN_pure _ _ _ ⟨rfl, rfl⟩ (f35_ok l n hn) rfl ?_
  refine condP (fun h1 => ?_) (fun h1 => ?_)
  · refine congrArg (PV.int IntKind.i64) ?_
    simp only [Bool.not_eq_true'] at h1
    simp [checkE, h1]
  · simp only [Bool.not_eq_false'] at h1
    refine callN_pure _ _ _ ⟨rfl, rfl⟩ (f36_ok k m hm) rfl ?_
    refine condP (fun h2 => ?_) (fun h2 => ?_)
    · refine congrArg (PV.int IntKind.i64) ?_
      simp only [Bool.not_eq_true'] at h2
      simp [checkE, h1, h2]
    · refine congrArg (PV.int IntKind.i64) ?_
      simp only [Bool.not_eq_false'] at h2
      simp [checkE, h1, h2]
end Abs
