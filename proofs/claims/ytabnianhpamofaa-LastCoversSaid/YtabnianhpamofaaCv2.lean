/- Walks: layer 3: lists that are valid, as the document says. (Printed by wip/gen_cv2.py.) -/
import Derived.Test.YtabnianhpamofaaCv1
set_option linter.unusedSectionVars false
set_option linter.unusedSimpArgs false
set_option linter.unusedVariables false
set_option maxRecDepth 100000
set_option maxHeartbeats 4000000
namespace Abs
open Go Go.Proofs
variable [DMode]
def Hd.cells (h : Hd) : List V := [.pv (.int .i64 h.num), .pv (.int .i64 h.m0), .pv (.int .i64 h.m1), .pv (.int .i64 h.m2), .pv (.int .i64 h.m3), .pv (.int .i64 h.m4)]
def lvF (ok : Nat → Bool) (num : Nat → Int) : Nat → Nat → Bool
  | _, 0 => true
  | i, k + 1 => ok i && (!seenB num i (num i) && lvF ok num (i + 1) k)
theorem f47_ok (l : Nat → Sz) (n : Nat) (hn : n ≤ 140737488355328) : Fn Try.prog 47 [.slice 17 n (fun i => (l i).enc)] (.bool (lvF (fun i => (l i).okb) (fun i => (l i).code) 0 n && decide ((n : Int) ≤ 20))) := by
  refine fn_of (m := {}) (k := Try.f47.ntmps - 1) fol Try.func47 rfl rfl ?_
  refine loopN_intro fun I hle hI => ?_
  have key : ∀ i, i ≤ n → lvF (fun i => (l i).okb) (fun i => (l i).code) 0 n = lvF (fun i => (l i).okb) (fun i => (l i).code) i (n - i) → stK 35 [(0, .pv (.slice 17 n (fun i => (l i).enc))), (2, .pv (.bool false)), (7, .pv (.slice 17 n (fun i => (l i).enc))), (8, .pv (.int .i64 n)), (9, .pv (.int .i64 i))] [] I := by
    refine up_ind n fun i hi ih he => ?_
    refine hI _ ?_
    refine condP (fun hc => ?_) (fun hc => ?_)
    · have hlt : i < n := by simpa using hc
      refine ⟨?_, ?_⟩
      · simp [AllP]; omega
      refine callN_pure _ _ _ ⟨rfl, rfl⟩ (f37_ok (l i)) rfl ?_
      refine condP (fun hp => ?_) (fun hp => ?_)
      · refine congrArg PV.bool ?_
        have hp : (l i).okb = false := by simpa using hp
        rw [he, show n - i = (n - i - 1) + 1 by omega, lvF, hp]
        rfl
      have hp : (l i).okb = true := by simpa using hp
      refine ⟨by simp [AllP]; omega, ?_⟩
      refine loopN_intro fun I2 hle2 hI2 => ?_
      have key2 : ∀ j, j ≤ i → seenB (fun i => (l i).code) j (l i).code = false → stK 35 [(0, .pv (.slice 17 n (fun i => (l i).enc))), (2, .pv (.bool false)), (4, .ptr 4 1 0), (7, .pv (.slice 17 n (fun i => (l i).enc))), (8, .pv (.int .i64 n)), (9, .pv (.int .i64 i)), (19, .pv (.slice 17 i (fun j => (l (0 + j)).enc))), (20, .pv (.int .i64 i)), (21, .pv (.int .i64 j))] [(4, 1, .cells (l i).cells)] I2 := by
        refine up_ind i fun j hj jh hs => ?_
        refine hI2 _ ?_
        refine condP (fun hc2 => ?_) (fun hc2 => ?_)
        · have hlt2 : j < i := by simpa using hc2
          refine ⟨by simp [AllP]; omega, ?_⟩
          refine condP (fun hq => ?_) (fun hq => ?_)
          · refine congrArg PV.bool ?_
            have hq : (l (0 + j)).code = (l i).code := by simpa using hq
            rw [Nat.zero_add] at hq
            have hs2 : seenB (fun i => (l i).code) i (l i).code = true := by
              unfold seenB
              rw [List.any_eq_true]
              exact ⟨j, by simpa using hlt2, by simpa using hq.symm⟩
            rw [he, show n - i = (n - i - 1) + 1 by omega, lvF, hs2]
            simp
          · refine ⟨wrap_small (by omega) (by omega), ?_⟩
            refine hle2 _ _ (le_of ?_) (jh (j + 1) (Nat.lt_succ_self j) hlt2 ?_)
            · repeat' (first | exact Same.refl _ | exact rfl | refine And.intro ?_ ?_)
            · have hq : ¬ (l (0 + j)).code = (l i).code := by simpa using hq
              rw [Nat.zero_add] at hq
              unfold seenB at hs ⊢
              rw [List.range_succ, List.any_append, hs]
              simpa [eq_comm] using hq
        · have hji : j = i := by simp at hc2; omega
          subst hji
          refine ⟨wrap_small (by omega) (by omega), ?_⟩
          refine hle _ _ (le_of ?_) (ih (j + 1) (Nat.lt_succ_self j) hlt ?_)
          · repeat' (first | exact Same.refl _ | exact rfl | refine And.intro ?_ ?_)
          · rw [he, show n - j = (n - j - 1) + 1 by omega, lvF, hp, hs]
            rfl
      refine hle2 _ _ (le_of ?_) (key2 0 (Nat.zero_le _) rfl)
      repeat' (first | exact Same.refl _ | exact rfl | refine And.intro ?_ ?_)
    · refine congrArg PV.bool ?_
      have : i = n := by simp at hc; omega
      rw [he, this, Nat.sub_self]
      simp [lvF]
  refine hle _ _ (le_of ?_) (key 0 (Nat.zero_le _) rfl)
  repeat' (first | exact Same.refl _ | exact rfl | refine And.intro ?_ ?_)

theorem f48_ok (l : Nat → Hd) (n : Nat) (hn : n ≤ 140737488355328) : Fn Try.prog 48 [.slice 6 n (fun i => (l i).enc)] (.bool (lvF (fun i => (l i).okb) (fun i => (l i).num) 0 n && decide ((n : Int) ≤ 40))) := by
  refine fn_of (m := {}) (k := Try.f48.ntmps - 1) fol Try.func48 rfl rfl ?_
  refine loopN_intro fun I hle hI => ?_
  have key : ∀ i, i ≤ n → lvF (fun i => (l i).okb) (fun i => (l i).num) 0 n = lvF (fun i => (l i).okb) (fun i => (l i).num) i (n - i) → stK 35 [(0, .pv (.slice 6 n (fun i => (l i).enc))), (2, .pv (.bool false)), (7, .pv (.slice 6 n (fun i => (l i).enc))), (8, .pv (.int .i64 n)), (9, .pv (.int .i64 i))] [] I := by
    refine up_ind n fun i hi ih he => ?_
    refine hI _ ?_
    refine condP (fun hc => ?_) (fun hc => ?_)
    · have hlt : i < n := by simpa using hc
      refine ⟨?_, ?_⟩
      · simp [AllP]; omega
      refine callN_pure _ _ _ ⟨rfl, rfl⟩ (f38_ok (l i)) rfl ?_
      refine condP (fun hp => ?_) (fun hp => ?_)
      · refine congrArg PV.bool ?_
        have hp : (l i).okb = false := by simpa using hp
        rw [he, show n - i = (n - i - 1) + 1 by omega, lvF, hp]
        rfl
      have hp : (l i).okb = true := by simpa using hp
      refine ⟨by simp [AllP]; omega, ?_⟩
      refine loopN_intro fun I2 hle2 hI2 => ?_
      have key2 : ∀ j, j ≤ i → seenB (fun i => (l i).num) j (l i).num = false → stK 35 [(0, .pv (.slice 6 n (fun i => (l i).enc))), (2, .pv (.bool false)), (4, .ptr 4 1 0), (7, .pv (.slice 6 n (fun i => (l i).enc))), (8, .pv (.int .i64 n)), (9, .pv (.int .i64 i)), (19, .pv (.slice 6 i (fun j => (l (0 + j)).enc))), (20, .pv (.int .i64 i)), (21, .pv (.int .i64 j))] [(4, 1, .cells (l i).cells)] I2 := by
        refine up_ind i fun j hj jh hs => ?_
        refine hI2 _ ?_
        refine condP (fun hc2 => ?_) (fun hc2 => ?_)
        · have hlt2 : j < i := by simpa using hc2
          refine ⟨by simp [AllP]; omega, ?_⟩
          refine condP (fun hq => ?_) (fun hq => ?_)
          · refine congrArg PV.bool ?_
            have hq : (l (0 + j)).num = (l i).num := by simpa using hq
            rw [Nat.zero_add] at hq
            have hs2 : seenB (fun i => (l i).num) i (l i).num = true := by
              unfold seenB
              rw [List.any_eq_true]
              exact ⟨j, by simpa using hlt2, by simpa using hq.symm⟩
            rw [he, show n - i = (n - i - 1) + 1 by omega, lvF, hs2]
            simp
          · refine ⟨wrap_small (by omega) (by omega), ?_⟩
            refine hle2 _ _ (le_of ?_) (jh (j + 1) (Nat.lt_succ_self j) hlt2 ?_)
            · repeat' (first | exact Same.refl _ | exact rfl | refine And.intro ?_ ?_)
            · have hq : ¬ (l (0 + j)).num = (l i).num := by simpa using hq
              rw [Nat.zero_add] at hq
              unfold seenB at hs ⊢
              rw [List.range_succ, List.any_append, hs]
              simpa [eq_comm] using hq
        · have hji : j = i := by simp at hc2; omega
          subst hji
          refine ⟨wrap_small (by omega) (by omega), ?_⟩
          refine hle _ _ (le_of ?_) (ih (j + 1) (Nat.lt_succ_self j) hlt ?_)
          · repeat' (first | exact Same.refl _ | exact rfl | refine And.intro ?_ ?_)
          · rw [he, show n - j = (n - j - 1) + 1 by omega, lvF, hp, hs]
            rfl
      refine hle2 _ _ (le_of ?_) (key2 0 (Nat.zero_le _) rfl)
      repeat' (first | exact Same.refl _ | exact rfl | refine And.intro ?_ ?_)
    · refine congrArg PV.bool ?_
      have : i = n := by simp at hc; omega
      rw [he, this, Nat.sub_self]
      simp [lvF]
  refine hle _ _ (le_of ?_) (key 0 (Nat.zero_le _) rfl)
  repeat' (first | exact Same.refl _ | exact rfl | refine And.intro ?_ ?_)

/-- None is wrong, and none comes twice: said in two ways. -/
theorem idx_neg (p : Nat → Bool) : ∀ k i, idxF p i k = -1 ∨ 0 ≤ idxF p i k
  | 0, _ => .inl rfl
  | k + 1, i => by
    unfold idxF
    split
    · exact .inr (Int.natCast_nonneg _)
    · exact idx_neg p k (i + 1)
theorem lv_split (ok : Nat → Bool) (num : Nat → Int) : ∀ k i, lvF ok num i k = (!decide (idxF (fun j => !ok j) i k ≥ 0) && disF num i k)
  | 0, i => by simp [lvF, idxF, disF]
  | k + 1, i => by
    unfold lvF idxF disF
    rw [lv_split ok num k (i + 1)]
    cases h : ok i
    · simp
    · cases seenB num i (num i) <;> simp
theorem lst_split (l : Nat → Int) (n : Int) : ∀ k i, lstF l n i k = (!decide (idxF (fun j => outB (l j) n) i k ≥ 0) && disF l i k)
  | 0, i => by simp [lstF, idxF, disF]
  | k + 1, i => by
    unfold lstF idxF disF
    rw [lst_split l n k (i + 1)]
    cases h : outB (l i) n
    · cases seenB l i (l i) <;> simp
    · simp
theorem lst_pick (l : Nat → Int) (n : Int) (k : Nat) : lstF l n 0 k = pickB l k n := by
  rw [lst_split]
  rfl
theorem lv_sz (l : Nat → Sz) (n : Nat) : (lvF (fun i => (l i).okb) (fun i => (l i).code) 0 n && decide ((n : Int) ≤ 20)) = validSzs l n := by
  rw [lv_split]
  simp only [validSzs, anyF]
  rw [Bool.and_comm]
theorem lv_hd (l : Nat → Hd) (n : Nat) : (lvF (fun i => (l i).okb) (fun i => (l i).num) 0 n && decide ((n : Int) ≤ 40)) = validHds l n := by
  rw [lv_split]
  simp only [validHds, anyF]
  rw [Bool.and_comm]
theorem f31_ok (l : Nat → Sz) (n : Nat) (hn : n ≤ 140737488355328) (k : Nat → Hd) (m : Nat) (hm : m ≤ 140737488355328) :
    Fn Try.prog 31 [.slice 17 n (fun i => (l i).enc), .slice 6 m (fun i => (k i).enc)] (.int .i64 (checkE l n k m)) := by
  refine fn_of (m := {}) (k := Try.f31.ntmps - 2) fol Try.func31 rfl rfl ?_
  refine callN_pure _ _ _ ⟨rfl, rfl⟩ (f47_ok l n hn) rfl ?_
  rw [lv_sz]
  unfold checkE
  refine condP (fun h1 => ?_) (fun h1 => ?_)
  · have h1 : validSzs l n = false := by simpa using h1
    rw [h1]
    exact rfl
  have h1 : validSzs l n = true := by simpa using h1
  rw [h1]
  refine callN_pure _ _ _ ⟨rfl, rfl⟩ (f48_ok k m hm) rfl ?_
  rw [lv_hd]
  refine condP (fun h2 => ?_) (fun h2 => ?_)
  · have h2 : validHds k m = false := by simpa using h2
    rw [h2]
    exact rfl
  have h2 : validHds k m = true := by simpa using h2
  rw [h2]
  exact rfl
end Abs
