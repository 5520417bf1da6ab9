/- Walks: layer 3: fits, covered, covers, fitted. -/
import Derived.Test.YtabnianhpamofaaCv2
set_option linter.unusedSectionVars false
set_option linter.unusedSimpArgs false
set_option linter.unusedVariables false
set_option maxRecDepth 100000
set_option maxHeartbeats 4000000
namespace Abs
open Go Go.Proofs
variable [DMode]
def fitB (s : Sz) (h : Hd) : Bool := decide ((fltL s h).k = 0)
theorem f34_ok (s : Sz) (h : Hd) (hb : Bnd s h) : Fn Try.prog 34 [s.enc, h.enc] (.bool (fitB s h)) := by
  refine fn_of (m := {}) (k := Try.f34.ntmps - 2) fol Try.func34 rfl rfl ?_
  refine callN_pure _ _ _ ⟨rfl, rfl⟩ (f24_ok s h hb) rfl ?_
  refine congrArg PV.bool ?_
  simp [fitB]
def cvF (S : Nat → Sz) (h : Hd) (l : Nat → Int) : Nat → Nat → Bool
  | _, 0 => false
  | i, k + 1 => fitB (S (l i).toNat) h || cvF S h l (i + 1) k
theorem f49_ok (S : Nat → Sz) (n : Nat) (hn : n ≤ 140737488355328) (h : Hd) (l : Nat → Int) (k : Nat) (hk : k ≤ 140737488355328) (hl : ∀ i, i < k → 0 ≤ l i ∧ l i < n) (hb : ∀ j, j < n → Bnd (S j) h) :
    Fn Try.prog 49 [.slice 17 n (fun i => (S i).enc), h.enc, .slice 1 k (fun i => .int .i64 (l i))] (.bool (cvF S h l 0 k)) := by
  refine fn_of (m := {}) (k := Try.f49.ntmps - 3) fol Try.func49 rfl rfl ?_
  refine loopN_intro fun I hle hI => ?_
  have key : ∀ i, i ≤ k → cvF S h l 0 k = cvF S h l i (k - i) → stK 22 [(0, .pv (.slice 17 n (fun i => (S i).enc))), (4, .ptr 4 1 0), (6, .pv (.bool false)), (9, .pv (.slice 1 k (fun i => .int .i64 (l i)))), (10, .pv (.int .i64 k)), (11, .pv (.int .i64 i))] [(4, 1, .cells h.cells)] I := by
    refine up_ind k fun i hi ih he => ?_
    refine hI _ ?_
    refine condP (fun hc => ?_) (fun hc => ?_)
    · have hlt : i < k := by simpa using hc
      have hli := hl i hlt
      refine ⟨by simp [AllP]; omega, ?_⟩
      iterate 5 refine ⟨_, rfl, _, _, _, ⟨rfl, rfl, rfl⟩, ?_⟩
      refine ⟨_, rfl, _, _, ⟨_, fun _ => f34_ok (S (l i).toNat) h (hb _ (by omega)), rfl, rfl⟩, ?_⟩
      refine ⟨by decide +kernel, ?_⟩
      refine ⟨by simp [AllP, under]; omega, ?_⟩
      refine condP (fun hp => ?_) (fun hp => ?_)
      · refine congrArg PV.bool ?_
        rw [he, show k - i = (k - i - 1) + 1 by omega, cvF, hp]
        rfl
      · refine ⟨wrap_small (by omega) (by omega), ?_⟩
        refine hle _ _ (le_of ?_) (ih (i + 1) (Nat.lt_succ_self i) hlt ?_)
        · repeat' (first | exact Same.refl _ | exact rfl | refine And.intro ?_ ?_)
        · rw [he, show k - i = (k - i - 1) + 1 by omega, cvF, hp]
          rfl
    · refine congrArg PV.bool ?_
      have : i = k := by simp at hc; omega
      rw [he, this, Nat.sub_self]
      rfl
  refine hle _ _ (le_of ?_) (key 0 (Nat.zero_le _) rfl)
  repeat' (first | exact Same.refl _ | exact rfl | refine And.intro ?_ ?_)
def cvsF (S : Nat → Sz) (H : Nat → Hd) (l : Nat → Int) (k : Nat) : Nat → Nat → Bool
  | _, 0 => true
  | i, m + 1 => cvF S (H i) l 0 k && cvsF S H l k (i + 1) m
theorem f33_ok (S : Nat → Sz) (n : Nat) (hn : n ≤ 140737488355328) (H : Nat → Hd) (m : Nat) (hm : m ≤ 140737488355328) (l : Nat → Int) (k : Nat) (hk : k ≤ 140737488355328) (hl : ∀ i, i < k → 0 ≤ l i ∧ l i < n) (hb : ∀ j, j < n → ∀ i, i < m → Bnd (S j) (H i)) :
    Fn Try.prog 33 [.slice 17 n (fun i => (S i).enc), .slice 6 m (fun i => (H i).enc), .slice 1 k (fun i => .int .i64 (l i))] (.bool (cvsF S H l k 0 m)) := by
  refine fn_of (m := {}) (k := Try.f33.ntmps - 3) fol Try.func33 rfl rfl ?_
  refine loopN_intro fun I hle hI => ?_
  have key : ∀ i, i ≤ m → cvsF S H l k 0 m = cvsF S H l k i (m - i) → stK 21 [(0, .pv (.slice 17 n (fun i => (S i).enc))), (2, .pv (.slice 1 k (fun i => .int .i64 (l i)))), (6, .pv (.bool false)), (9, .pv (.slice 6 m (fun i => (H i).enc))), (10, .pv (.int .i64 m)), (11, .pv (.int .i64 i))] [] I := by
    refine up_ind m fun i hi ih he => ?_
    refine hI _ ?_
    refine condP (fun hc => ?_) (fun hc => ?_)
    · have hlt : i < m := by simpa using hc
      refine ⟨by simp [AllP]; omega, ?_⟩
      refine callN_pure _ _ _ ⟨rfl, rfl⟩ (f49_ok S n hn (H i) l k hk hl (fun j hj => hb j hj i hlt)) rfl ?_
      refine condP (fun hp => ?_) (fun hp => ?_)
      · refine congrArg PV.bool ?_
        have hp : cvF S (H i) l 0 k = false := by simpa using hp
        rw [he, show m - i = (m - i - 1) + 1 by omega, cvsF, hp]
        rfl
      · have hp : cvF S (H i) l 0 k = true := by simpa using hp
        refine ⟨wrap_small (by omega) (by omega), ?_⟩
        refine hle _ _ (le_of ?_) (ih (i + 1) (Nat.lt_succ_self i) hlt ?_)
        · repeat' (first | exact Same.refl _ | exact rfl | refine And.intro ?_ ?_)
        · rw [he, show m - i = (m - i - 1) + 1 by omega, cvsF, hp]
          rfl
    · refine congrArg PV.bool ?_
      have : i = m := by simp at hc; omega
      rw [he, this, Nat.sub_self]
      rfl
  refine hle _ _ (le_of ?_) (key 0 (Nat.zero_le _) rfl)
  repeat' (first | exact Same.refl _ | exact rfl | refine And.intro ?_ ?_)
/-- The heads, of the first k, that a size fits. -/
@[irreducible] def fitN (S : Nat → Sz) (H : Nat → Hd) (k j : Nat) : Nat := setOf (fun q => fitB (S j) (H q)) k
@[irreducible] def cellN (S : Nat → Sz) (H : Nat → Hd) (m i k j : Nat) : Nat := if j < i then fitN S H m j else if j = i then fitN S H k j else 0
theorem fitN_lt (S : Nat → Sz) (H : Nat → Hd) (k j : Nat) : fitN S H k j < 2 ^ k := by unfold fitN; exact setOf_lt _ _
theorem pow_le64 {k : Nat} (h : k ≤ 40) : 2 ^ k < 2 ^ 64 := Nat.pow_lt_pow_right (by decide) (by omega)
theorem fitN_next (S : Nat → Sz) (H : Nat → Hd) (k j : Nat) (hk : k < 40) (h : fitB (S j) (H k) = true) : bitop .or .u64 (fitN S H k j : Nat) (shlop .u64 1 (k : Nat)) = (fitN S H (k + 1) j : Nat) := by
  have h1 := fitN_lt S H k j
  have h2 := pow_le64 (k := k) (by omega)
  rw [shl_u64 k (by omega), or_u64 _ _ (by omega) h2]
  congr 1
  unfold fitN
  refine Nat.eq_of_testBit_eq fun q => ?_
  rw [Nat.testBit_or, testBit_setOf, testBit_setOf, Nat.testBit_two_pow]
  by_cases hq : q = k
  · subst hq; simp [h]
  · have h3 : ¬ k = q := fun e => hq e.symm
    have h4 : (q < k + 1) = (q < k) := by apply propext; omega
    simp [h3, h4]
theorem fitN_stay (S : Nat → Sz) (H : Nat → Hd) (k j : Nat) (h : fitB (S j) (H k) = false) : fitN S H (k + 1) j = fitN S H k j := by
  unfold fitN
  simp [setOf, h]
theorem cellN_row (S : Nat → Sz) (H : Nat → Hd) (m i : Nat) : cellN S H m (i + 1) 0 = cellN S H m i m := by
  funext j
  unfold cellN
  by_cases h1 : j < i
  · simp [h1, Nat.lt_succ_of_lt h1]
  · by_cases h2 : j = i
    · simp [h2]
    · have h3 : ¬ j < i + 1 := by omega
      simp only [h1, h2, h3, if_false]
      split
      · unfold fitN; rfl
      · rfl
theorem cellN_at (S : Nat → Sz) (H : Nat → Hd) (m i k : Nat) : cellN S H m i k i = fitN S H k i := by
  unfold cellN; simp
theorem cellN_ne (S : Nat → Sz) (H : Nat → Hd) (m i k k' j : Nat) (h : ¬ j = i) : cellN S H m i k j = cellN S H m i k' j := by
  unfold cellN; simp [h]
theorem cellN_start (S : Nat → Sz) (H : Nat → Hd) (m j : Nat) : cellN S H m 0 0 j = 0 := by
  unfold cellN fitN
  simp [setOf]
theorem cellN_end (S : Nat → Sz) (H : Nat → Hd) (m n j : Nat) (h : j < n) : cellN S H m n 0 j = fitN S H m j := by
  unfold cellN; simp [h]
theorem cellA (S : Nat → Sz) (H : Nat → Hd) (m i k : Nat) (hk : k < 40) (h : fitB (S i) (H k) = true) (n : Nat) : ∀ j, j < n →
    (cond (Nat.beq j (0 + i)) (PV.int .u64 (bitop .or .u64 (cellN S H m i k (0 + i) : Nat) (shlop .u64 1 (k : Nat)))) (PV.int .u64 (cellN S H m i k j : Nat))) = PV.int .u64 (cellN S H m i (k + 1) j : Nat) := by
  intro j _
  rw [Nat.zero_add]
  by_cases hj : j = i
  · subst hj
    rw [show Nat.beq j j = true from Nat.beq_refl j, cellN_at, cellN_at, fitN_next S H k j hk h]
    rfl
  · have hb : Nat.beq j i = false := by
      cases hb : Nat.beq j i
      · rfl
      · exact absurd (Nat.eq_of_beq_eq_true hb) hj
    rw [hb, cellN_ne S H m i k (k + 1) j hj]
    rfl
theorem cellB (S : Nat → Sz) (H : Nat → Hd) (m i k : Nat) (h : fitB (S i) (H k) = false) (n : Nat) : ∀ j, j < n → PV.int .u64 (cellN S H m i k j : Nat) = PV.int .u64 (cellN S H m i (k + 1) j : Nat) := by
  intro j _
  by_cases hj : j = i
  · subst hj
    rw [cellN_at, cellN_at, fitN_stay S H k j h]
  · rw [cellN_ne S H m i k (k + 1) j hj]
theorem cellC (S : Nat → Sz) (H : Nat → Hd) (m i n : Nat) : ∀ j, j < n → PV.int .u64 (cellN S H m i m j : Nat) = PV.int .u64 (cellN S H m (i + 1) 0 j : Nat) := by
  intro j _
  rw [cellN_row]
theorem cellD (S : Nat → Sz) (H : Nat → Hd) (m n : Nat) : ∀ j, j < n → PV.int .u64 0 = PV.int .u64 (cellN S H m 0 0 j : Nat) := by
  intro j _
  rw [cellN_start]; rfl
theorem f29_ok (S : Nat → Sz) (n : Nat) (hn : n ≤ 20) (H : Nat → Hd) (m : Nat) (hm : m ≤ 40) (hb : ∀ j, j < n → ∀ i, i < m → Bnd (S j) (H i)) :
    Fn Try.prog 29 [.slice 17 n (fun i => (S i).enc), .slice 6 m (fun i => (H i).enc)] (.slice 1 n (fun j => .int .u64 (fitN S H m j : Nat))) := by
  refine fn_of (m := {}) (k := Try.f29.ntmps - 2) fol Try.func29 rfl rfl ?_
  refine ⟨by simp [AllP]; show n * 8 ≤ 70368744177664; omega, ?_⟩
  refine loopN_intro fun I hle hI => ?_
  have key : ∀ i, i ≤ n → stK 43 [(0, .pv (.slice 17 n (fun i => (S i).enc))), (1, .pv (.slice 6 m (fun i => (H i).enc))), (4, .pv .nil), (5, .sl 12 1 1 0 n), (13, .pv (.slice 17 n (fun i => (S i).enc))), (14, .pv (.int .i64 n)), (15, .pv (.int .i64 i))] [(12, 1, .arr 1 n (fun j => .int .u64 (cellN S H m i 0 j : Nat)))] I := by
    refine up_ind n fun i hi ih => ?_
    refine hI _ ?_
    refine condP (fun hc => ?_) (fun hc => ?_)
    · have hlt : i < n := by simpa using hc
      refine ⟨by simp [AllP]; omega, ?_⟩
      refine loopN_intro fun I2 hle2 hI2 => ?_
      have key2 : ∀ k, k ≤ m → stK 43 [(0, .pv (.slice 17 n (fun i => (S i).enc))), (1, .pv (.slice 6 m (fun i => (H i).enc))), (4, .pv .nil), (5, .sl 12 1 1 0 n), (6, .pv (.int .i64 i)), (7, .ptr 7 1 0), (13, .pv (.slice 17 n (fun i => (S i).enc))), (14, .pv (.int .i64 n)), (15, .pv (.int .i64 i)), (20, .pv (.slice 6 m (fun i => (H i).enc))), (21, .pv (.int .i64 m)), (22, .pv (.int .i64 k))] [(12, 1, .arr 1 n (fun j => .int .u64 (cellN S H m i k j : Nat))), (7, 1, .cells (S i).cells)] I2 := by
        refine up_ind m fun k hk kh => ?_
        refine hI2 _ ?_
        refine condP (fun hc2 => ?_) (fun hc2 => ?_)
        · have hlt2 : k < m := by simpa using hc2
          refine ⟨by simp [AllP]; omega, ?_⟩
          refine callN_pure _ _ _ ⟨rfl, rfl⟩ (f23_ok (S i) (H k) (hb i hlt k hlt2)) rfl ?_
          refine condP (fun hp => ?_) (fun hp => ?_)
          · iterate 9 refine ⟨_, rfl, _, _, _, ⟨rfl, rfl, rfl⟩, ?_⟩
            refine ⟨by decide +kernel, ?_⟩
            refine ⟨by simp [AllP]; omega, ?_⟩
            refine ⟨wrap_small (by omega) (by omega), ?_⟩
            refine hle2 _ _ (le_of ?_) (kh (k + 1) (Nat.lt_succ_self k) hlt2)
            have hp : fitB (S i) (H k) = true := by simpa [fitB] using hp
            repeat' (first | exact Same.refl _ | exact rfl | exact cellA S H m i k (by omega) hp n | refine And.intro ?_ ?_)
          · refine ⟨wrap_small (by omega) (by omega), ?_⟩
            refine hle2 _ _ (le_of ?_) (kh (k + 1) (Nat.lt_succ_self k) hlt2)
            have hp : fitB (S i) (H k) = false := by simpa [fitB] using hp
            repeat' (first | exact Same.refl _ | exact rfl | exact cellB S H m i k hp n | refine And.intro ?_ ?_)
        · have hkm : k = m := by simp at hc2; omega
          subst hkm
          refine ⟨wrap_small (by omega) (by omega), ?_⟩
          refine hle _ _ (le_of ?_) (ih (i + 1) (Nat.lt_succ_self i) hlt)
          repeat' (first | exact Same.refl _ | exact rfl | exact cellC S H _ i n | refine And.intro ?_ ?_)
      refine hle2 _ _ (le_of ?_) (key2 0 (Nat.zero_le _))
      repeat' (first | exact Same.refl _ | exact rfl | exact fun _ _ => rfl | refine And.intro ?_ ?_)
    · have hin : i = n := by simp at hc; omega
      subst hin
      refine ⟨by omega, rfl, rfl, fun j hj => ?_⟩
      show PV.int .u64 (cellN S H m i 0 (0 + j) : Nat) = _
      rw [Nat.zero_add, cellN_end S H m i j hj]
  refine hle _ _ (le_of ?_) (key 0 (Nat.zero_le _))
  repeat' (first | exact Same.refl _ | exact rfl | exact cellD S H m n | refine And.intro ?_ ?_)
end Abs
