/- Walks: layer 3: picks, listed. -/
import Derived.Test.YtabnianhpamofaaWalk12
import Derived.Test.YtabnianhpamofaaPop2
set_option linter.unusedSectionVars false
set_option linter.unusedSimpArgs false
set_option linter.unusedVariables false
set_option maxRecDepth 100000
set_option maxHeartbeats 4000000
namespace Abs
open Go Go.Proofs
variable [DMode]
theorem f63c_ok (l : Nat → Int) (n : Nat) (hn : n ≤ 140737488355328) (g : FuncId) (c : PV) (p : Nat → Bool) (hg : ∀ i, i < n → Fn Try.prog g [(PV.int .i64 (l i)), c] (.bool (p i))) :
    Fn Try.prog 63 [.slice 1 n (fun i => (PV.int .i64 (l i))), .fn g [c]] (.int .i64 (idxF p 0 n)) := by
  refine fn_of (m := {}) (k := 17) fol Try.func63 rfl rfl ?_
  refine loopN_intro fun I hle hI => ?_
  have key : ∀ i, i ≤ n → idxF p 0 n = idxF p i (n - i) → stK 19 [(0, .pv (.slice 1 n (fun i => (PV.int .i64 (l i))))), (1, .pv (.fn g [c])), (4, .pv (.int .i64 0)), (7, .pv (.int .i64 n)), (8, .pv (.int .i64 i))] [] I := by
    refine up_ind n fun i hi ih he => ?_
    refine hI _ ?_
    refine condP (fun hc => ?_) (fun hc => ?_)
    · have hlt : i < n := by simpa using hc
      refine ⟨?_, ?_⟩
      · simp [AllP]; omega
      refine callN_pure _ _ _ ⟨rfl, rfl⟩ (hg i hlt) rfl ?_
      refine condP (fun hp => ?_) (fun hp => ?_)
      · refine congrArg (PV.int IntKind.i64) ?_
        rw [he, show n - i = (n - i - 1) + 1 by omega, idxF, if_pos hp]
      · refine ⟨wrap_small (by omega) (by omega), ?_⟩
        refine hle _ _ (le_of ?_) (ih (i + 1) (Nat.lt_succ_self i) hlt ?_)
        · exact ⟨rfl, rfl, rfl, rfl, Same.refl _⟩
        · rw [he, show n - i = (n - i - 1) + 1 by omega, idxF, if_neg (by rw [hp]; simp)]
          rfl
    · refine congrArg (PV.int IntKind.i64) ?_
      have : i = n := by simp at hc; omega
      rw [he, this, Nat.sub_self]
      rfl
  refine hle _ _ (le_of ?_) (key 0 (Nat.zero_le _) rfl)
  exact ⟨rfl, rfl, rfl, rfl, Same.refl _⟩
theorem f42c_ok (l : Nat → Int) (n : Nat) (hn : n ≤ 140737488355328) (g : FuncId) (c : PV) (p : Nat → Bool) (hg : ∀ i, i < n → Fn Try.prog g [(PV.int .i64 (l i)), c] (.bool (p i))) :
    Fn Try.prog 42 [.slice 1 n (fun i => (PV.int .i64 (l i))), .fn g [c]] (.bool (anyF p n)) := by
  refine fn_of (m := {}) (k := 7) fol Try.func42 rfl rfl ?_
  refine callN_pure _ _ _ ⟨rfl, rfl⟩ (f63c_ok l n hn g c p hg) rfl ?_
  exact rfl
def outB (x n : Int) : Bool := decide (x < 0) || decide (n ≤ x)
theorem f43_ok (x n : Int) : Fn Try.prog 43 [.int .i64 x, .box [.int .i64 n]] (.bool (outB x n)) := by
  refine fn_of (m := {}) (k := Try.f43.ntmps - 2) fol Try.func43 rfl rfl ?_
  refine ⟨by simp [AllP, under], ?_⟩
  refine congrArg PV.bool ?_
  simp [outB, cond_true']
theorem f45_ok (x : Int) : Fn Try.prog 45 [.int .i64 x] (.int .i64 x) := by
  refine fn_of (m := {}) (k := Try.f45.ntmps - 1) fol Try.func45 rfl rfl ?_
  exact rfl
theorem f44_ok (l : Nat → Int) (n : Nat) (hn : n ≤ 140737488355328) (g : FuncId) (num : Nat → Int) (hg : ∀ i, i < n → Fn Try.prog g [.int .i64 (l i)] (.int .i64 (num i))) :
    Fn Try.prog 44 [.slice 1 n (fun i => .int .i64 (l i)), .fn g []] (.bool (disF num 0 n)) := by
  refine fn_of (m := {}) (k := Try.f44.ntmps - 2) fol Try.func44 rfl rfl ?_
  refine loopN_intro fun I hle hI => ?_
  have key : ∀ i, i ≤ n → disF num 0 n = disF num i (n - i) → stK 25 [(0, .pv (.slice 1 n (fun i => .int .i64 (l i)))), (1, .pv (.fn g [])), (4, .pv (.bool false)), (5, .mp 8 1), (9, .pv (.slice 1 n (fun i => .int .i64 (l i)))), (10, .pv (.int .i64 n)), (11, .pv (.int .i64 i))] [(8, 1, .map (mapEs num i))] I := by
    refine up_ind n fun i hi ih he => ?_
    refine hI _ ?_
    refine condP (fun hc => ?_) (fun hc => ?_)
    · have hlt : i < n := by simpa using hc
      refine ⟨?_, ?_⟩
      · simp [AllP]; omega
      refine callN_pure _ _ _ ⟨rfl, rfl⟩ (hg i hlt) rfl ?_
      refine ⟨_, look_es _ _ _, ?_⟩
      refine ⟨like_es _ _ _, ?_⟩
      refine condP (fun hp => ?_) (fun hp => ?_)
      · refine congrArg PV.bool ?_
        rw [he, show n - i = (n - i - 1) + 1 by omega, disF, hp]
        rfl
      · refine callN_pure _ _ _ ⟨rfl, rfl⟩ (hg i hlt) rfl ?_
        refine ⟨like_es _ _ _, ?_⟩
        refine ⟨wrap_small (by omega) (by omega), ?_⟩
        refine hle _ _ (le_of ?_) (ih (i + 1) (Nat.lt_succ_self i) hlt ?_)
        · exact ⟨set_es num i hp, by repeat' (first | exact Same.refl _ | exact rfl | refine And.intro ?_ ?_)⟩
        · rw [he, show n - i = (n - i - 1) + 1 by omega, disF, hp]
          rfl
    · refine congrArg PV.bool ?_
      have : i = n := by simp at hc; omega
      rw [he, this, Nat.sub_self]
      rfl
  refine hle _ _ (le_of ?_) (key 0 (Nat.zero_le _) rfl)
  repeat' (first | exact Same.refl _ | exact rfl | refine And.intro ?_ ?_)

def pickB (l : Nat → Int) (k : Nat) (n : Int) : Bool := !anyF (fun i => outB (l i) n) k && disF l 0 k
theorem f28_ok (l : Nat → Int) (k : Nat) (hk : k ≤ 140737488355328) (n : Int) : Fn Try.prog 28 [.slice 1 k (fun i => .int .i64 (l i)), .int .i64 n] (.bool (pickB l k n)) := by
  refine fn_of (m := { fz := [(1, 3)] }) (k := Try.f28.ntmps - 2) fol Try.func28 rfl rfl ?_
  refine callN_pure _ _ _ ⟨rfl, rfl⟩ (f42c_ok l k hk 43 (.box [.int .i64 n]) (fun i => outB (l i) n) (fun i _ => f43_ok _ _)) rfl ?_
  refine ⟨_, fun _ => f44_ok l k hk 45 l (fun i _ => f45_ok _), ?_⟩
  refine ⟨by simp [AllP, under], ?_⟩
  refine congrArg PV.bool ?_
  simp [pickB, cond_false]
theorem f46_ok (x : Nat) (hx : x < 2 ^ 64) : Fn Try.prog 46 [.int .u64 x] (.int .i64 (pop x)) := by
  refine fn_of (m := { wrap := true }) (k := Try.f46.ntmps - 1) fol Try.func46 rfl rfl ?_
  iterate 6 refine ⟨by simp [AllP], ?_⟩
  refine congrArg (PV.int IntKind.i64) ?_
  have b1 := s1_le 8 x
  rw [r85] at b1
  have b2 := s2_le 8 (s1 8 x)
  rw [r51] at b2
  have b3 := s3_le 8 (s2 8 (s1 8 x))
  rw [r15] at b3
  have hp : pop x = ones x := (ones_pop x hx).symm
  rw [hp]
  unfold ones
  rw [u1 x hx, u2 (s1 8 x) (by omega), u3 (s2 8 (s1 8 x)) (by omega)]
  simp only []
  generalize s3 8 (s2 8 (s1 8 x)) = y at b3 ⊢
  have q1 : IntKind.u64.wrap ((y : Int) + shrop .u64 y 8) = (y + y / 256 : Nat) := u4 y 8 256 (by decide) (by decide) (by decide) (by omega)
  rw [q1]
  have c1 : y + y / 256 ≤ 2 * y := by omega
  generalize y + y / 256 = z at c1 ⊢
  have q2 : IntKind.u64.wrap ((z : Int) + shrop .u64 z 16) = (z + z / 65536 : Nat) := u4 z 16 65536 (by decide) (by decide) (by decide) (by omega)
  rw [q2]
  have c2 : z + z / 65536 ≤ 2 * z := by omega
  generalize z + z / 65536 = v at c2 ⊢
  have q3 : IntKind.u64.wrap ((v : Int) + shrop .u64 v 32) = (v + v / 4294967296 : Nat) := u4 v 32 4294967296 (by decide) (by decide) (by decide) (by omega)
  rw [q3]
  exact u5 _ (by omega)
theorem f30_ok (x : Nat) (hx : x < 2 ^ 64) : Fn Try.prog 30 [.int .u64 x] (.int .i64 (pop x)) := by
  refine fn_of (m := {}) (k := Try.f30.ntmps - 1) fol Try.func30 rfl rfl ?_
  refine callN_pure _ _ _ ⟨rfl, rfl⟩ (f46_ok x hx) rfl ?_
  exact rfl
def lstF (l : Nat → Int) (n : Int) : Nat → Nat → Bool
  | _, 0 => true
  | i, k + 1 => !outB (l i) n && (!seenB l i (l i) && lstF l n (i + 1) k)
theorem f32_ok (l : Nat → Int) (k : Nat) (hk : k ≤ 140737488355328) (n : Int) : Fn Try.prog 32 [.slice 1 k (fun i => .int .i64 (l i)), .int .i64 n] (.bool (lstF l n 0 k)) := by
  refine fn_of (m := {}) (k := Try.f32.ntmps - 2) fol Try.func32 rfl rfl ?_
  refine loopN_intro fun I hle hI => ?_
  have key : ∀ i, i ≤ k → lstF l n 0 k = lstF l n i (k - i) → stK 36 [(0, .pv (.slice 1 k (fun i => .int .i64 (l i)))), (1, .pv (.int .i64 n)), (4, .pv (.bool false)), (9, .pv (.slice 1 k (fun i => .int .i64 (l i)))), (10, .pv (.int .i64 k)), (11, .pv (.int .i64 i))] [] I := by
    refine up_ind k fun i hi ih he => ?_
    refine hI _ ?_
    refine condP (fun hc => ?_) (fun hc => ?_)
    · have hlt : i < k := by simpa using hc
      refine ⟨?_, ?_⟩
      · simp [AllP]; omega
      refine ⟨by simp [AllP, under], ?_⟩
      refine condP (fun hp => ?_) (fun hp => ?_)
      · refine congrArg PV.bool ?_
        have hp : outB (l i) n = true := by simpa [outB, cond_true'] using hp
        rw [he, show k - i = (k - i - 1) + 1 by omega, lstF, hp]
        rfl
      have hp : outB (l i) n = false := by simpa [outB, cond_true'] using hp
      refine ⟨by simp [AllP]; omega, ?_⟩
      refine loopN_intro fun I2 hle2 hI2 => ?_
      have key2 : ∀ j, j ≤ i → seenB l j (l i) = false → stK 36 [(0, .pv (.slice 1 k (fun i => .int .i64 (l i)))), (1, .pv (.int .i64 n)), (4, .pv (.bool false)), (6, .pv (.int .i64 (l i))), (9, .pv (.slice 1 k (fun i => .int .i64 (l i)))), (10, .pv (.int .i64 k)), (11, .pv (.int .i64 i)), (25, .pv (.slice 1 i (fun j => .int .i64 (l (0 + j))))), (26, .pv (.int .i64 i)), (27, .pv (.int .i64 j))] [] I2 := by
        refine up_ind i fun j hj jh hs => ?_
        refine hI2 _ ?_
        refine condP (fun hc2 => ?_) (fun hc2 => ?_)
        · have hlt2 : j < i := by simpa using hc2
          refine ⟨by simp [AllP]; omega, ?_⟩
          refine condP (fun hq => ?_) (fun hq => ?_)
          · refine congrArg PV.bool ?_
            have hq : l i = l (0 + j) := by simpa using hq
            rw [Nat.zero_add] at hq
            have hs2 : seenB l i (l i) = true := by
              unfold seenB
              rw [List.any_eq_true]
              exact ⟨j, by simpa using hlt2, by simpa using hq⟩
            rw [he, show k - i = (k - i - 1) + 1 by omega, lstF, hs2]
            simp
          · refine ⟨wrap_small (by omega) (by omega), ?_⟩
            refine hle2 _ _ (le_of ?_) (jh (j + 1) (Nat.lt_succ_self j) hlt2 ?_)
            · repeat' (first | exact Same.refl _ | exact rfl | refine And.intro ?_ ?_)
            · have hq : ¬ l i = l (0 + j) := by simpa using hq
              rw [Nat.zero_add] at hq
              unfold seenB at hs ⊢
              rw [List.range_succ, List.any_append, hs]
              simpa using hq
        · have hji : j = i := by simp at hc2; omega
          subst hji
          refine ⟨wrap_small (by omega) (by omega), ?_⟩
          refine hle _ _ (le_of ?_) (ih (j + 1) (Nat.lt_succ_self j) hlt ?_)
          · repeat' (first | exact Same.refl _ | exact rfl | refine And.intro ?_ ?_)
          · rw [he, show k - j = (k - j - 1) + 1 by omega, lstF, hp, hs]
            rfl
      refine hle2 _ _ (le_of ?_) (key2 0 (Nat.zero_le _) rfl)
      repeat' (first | exact Same.refl _ | exact rfl | refine And.intro ?_ ?_)
    · refine congrArg PV.bool ?_
      have : i = k := by simp at hc; omega
      rw [he, this, Nat.sub_self]
      rfl
  refine hle _ _ (le_of ?_) (key 0 (Nat.zero_le _) rfl)
  repeat' (first | exact Same.refl _ | exact rfl | refine And.intro ?_ ?_)
end Abs
