/- Sets of numbers below 64 as the bits of a number; how many bits a number has. -/
import Derived.Test.YtabnianhpamofaaAbs21
set_option linter.unusedSectionVars false
set_option linter.unusedSimpArgs false
set_option linter.unusedVariables false
set_option maxRecDepth 100000
namespace Abs
open Go
/-- How many of the first n are. -/
def cnt (p : Nat → Bool) : Nat → Nat
  | 0 => 0
  | n + 1 => cnt p n + (p n).toNat
/-- The set of those below n that are. -/
def setOf (p : Nat → Bool) : Nat → Nat
  | 0 => 0
  | n + 1 => setOf p n + (p n).toNat * 2 ^ n
theorem setOf_lt (p : Nat → Bool) : ∀ n, setOf p n < 2 ^ n
  | 0 => by simp [setOf]
  | n + 1 => by
    have := setOf_lt p n
    have h2 : 2 ^ (n + 1) = 2 ^ n + 2 ^ n := by rw [Nat.pow_succ]; omega
    simp only [setOf]
    cases p n <;> simp <;> omega
theorem testBit_setOf (p : Nat → Bool) : ∀ n k, (setOf p n).testBit k = (decide (k < n) && p k)
  | 0, k => by simp [setOf]
  | n + 1, k => by
    have hl := setOf_lt p n
    have ih := testBit_setOf p n k
    have e : setOf p (n + 1) = 2 ^ n * (p n).toNat + setOf p n := by simp only [setOf]; rw [Nat.mul_comm, Nat.add_comm]
    rw [e, Nat.testBit_two_pow_mul_add _ hl]
    by_cases h : k < n
    · rw [if_pos h, ih]
      simp [h, Nat.lt_succ_of_lt h]
    · rw [if_neg h]
      by_cases h2 : k = n
      · subst h2
        cases p k <;> simp
      · have h3 : ¬ k < n + 1 := by omega
        rw [decide_eq_false h3, Bool.false_and]
        cases hp : p n
        · simp
        · simp only [Bool.toNat_true]
          rw [Nat.testBit_lt_two_pow]
          exact Nat.lt_of_lt_of_le (show 1 < 2 ^ 1 by decide) (Nat.pow_le_pow_right (by decide) (by omega))
theorem setOf_ext {p q : Nat → Bool} {n : Nat} (h : ∀ k, k < n → p k = q k) : setOf p n = setOf q n := by
  refine Nat.eq_of_testBit_eq fun k => ?_
  rw [testBit_setOf, testBit_setOf]
  by_cases hk : k < n
  · simp [hk, h k hk]
  · simp [hk]
theorem setOf_or (p q : Nat → Bool) (n : Nat) : setOf p n ||| setOf q n = setOf (fun k => p k || q k) n := by
  refine Nat.eq_of_testBit_eq fun k => ?_
  rw [Nat.testBit_or, testBit_setOf, testBit_setOf, testBit_setOf]
  cases decide (k < n) <;> simp
theorem setOf_and (p q : Nat → Bool) (n : Nat) : setOf p n &&& setOf q n = setOf (fun k => p k && q k) n := by
  refine Nat.eq_of_testBit_eq fun k => ?_
  rw [Nat.testBit_and, testBit_setOf, testBit_setOf, testBit_setOf]
  cases decide (k < n) <;> simp
theorem setOf_bit (p : Nat → Bool) (n j : Nat) (hj : j < n) : setOf p n ||| 2 ^ j = setOf (fun k => p k || decide (k = j)) n := by
  refine Nat.eq_of_testBit_eq fun k => ?_
  rw [Nat.testBit_or, testBit_setOf, testBit_setOf, Nat.testBit_two_pow]
  by_cases hk : k < n
  · simp [hk]; cases p k <;> simp [eq_comm]
  · have : j ≠ k := by omega
    simp [hk, this]
theorem setOf_false (n : Nat) : setOf (fun _ => false) n = 0 := by
  refine Nat.eq_of_testBit_eq fun k => ?_
  rw [testBit_setOf]; simp
theorem setOf_true : ∀ n : Nat, setOf (fun _ => true) n = 2 ^ n - 1
  | 0 => rfl
  | n + 1 => by
    have := Nat.one_le_two_pow (n := n)
    simp only [setOf, setOf_true n, Bool.toNat_true, Nat.one_mul]
    rw [Nat.pow_succ]; omega
theorem cnt_ext {p q : Nat → Bool} : ∀ {n : Nat}, (∀ k, k < n → p k = q k) → cnt p n = cnt q n
  | 0, _ => rfl
  | n + 1, h => by simp only [cnt]; rw [cnt_ext fun k hk => h k (Nat.lt_succ_of_lt hk), h n (Nat.lt_succ_self n)]
theorem cnt_le (p : Nat → Bool) : ∀ n, cnt p n ≤ n
  | 0 => Nat.le_refl _
  | n + 1 => by have := cnt_le p n; have h2 : (p n).toNat ≤ 1 := by cases p n <;> decide
                simp only [cnt]; omega
/-- How many bits a number below 2^64 has. -/
def pop (x : Nat) : Nat := cnt x.testBit 64
theorem cnt_more (p : Nat → Bool) (n : Nat) (h : ∀ k, n ≤ k → p k = false) : ∀ d, cnt p (n + d) = cnt p n
  | 0 => rfl
  | d + 1 => by rw [← Nat.add_assoc]; simp only [cnt]; rw [cnt_more p n h d, h (n + d) (by omega)]; rfl
theorem pop_setOf (p : Nat → Bool) (n : Nat) (hn : n ≤ 64) : pop (setOf p n) = cnt p n := by
  unfold pop
  obtain ⟨d, hd⟩ : ∃ d, 64 = n + d := ⟨64 - n, by omega⟩
  rw [hd, cnt_more]
  · exact cnt_ext fun k hk => by rw [testBit_setOf]; simp [hk]
  · intro k hk
    rw [testBit_setOf]
    simp; omega
theorem cnt_all (p : Nat → Bool) : ∀ n, cnt p n = n ↔ ∀ k, k < n → p k = true
  | 0 => by simp [cnt]
  | n + 1 => by
    have h1 := cnt_le p n
    have ih := cnt_all p n
    simp only [cnt]
    constructor
    · intro h k hk
      have hp : p n = true := by cases hp : p n <;> simp [hp] at h ⊢; omega
      rcases Nat.lt_or_ge k n with h2 | h2
      · rw [hp] at h
        have h : cnt p n + 1 = n + 1 := h
        exact ih.1 (by omega) k h2
      · have : k = n := by omega
        subst this; exact hp
    · intro h
      have := ih.2 fun k hk => h k (Nat.lt_succ_of_lt hk)
      rw [this, h n (Nat.lt_succ_self n)]
      rfl
/-- More than one is: two that differ. -/
theorem cnt_pos (p : Nat → Bool) : ∀ n, 0 < cnt p n ↔ ∃ k, k < n ∧ p k = true
  | 0 => by simp [cnt]
  | n + 1 => by
    have ih := cnt_pos p n
    simp only [cnt]
    constructor
    · intro h
      cases hp : p n
      · rw [hp] at h
        obtain ⟨k, hk, e⟩ := ih.1 h
        exact ⟨k, by omega, e⟩
      · exact ⟨n, by omega, hp⟩
    · rintro ⟨k, hk, e⟩
      rcases Nat.lt_or_ge k n with h2 | h2
      · have := ih.2 ⟨k, h2, e⟩; omega
      · have : k = n := by omega
        subst this; rw [e]; simp
theorem cnt_two (p : Nat → Bool) : ∀ n, 1 < cnt p n ↔ ∃ j k, j < k ∧ k < n ∧ p j = true ∧ p k = true
  | 0 => by simp [cnt]
  | n + 1 => by
    have ih := cnt_two p n
    have ip := cnt_pos p n
    simp only [cnt]
    constructor
    · intro h
      cases hp : p n
      · rw [hp] at h
        obtain ⟨j, k, h1, h2, h3⟩ := ih.1 h
        exact ⟨j, k, h1, by omega, h3⟩
      · rw [hp] at h
        obtain ⟨k, hk, e⟩ := ip.1 (by simpa using h)
        exact ⟨k, n, hk, by omega, e, hp⟩
    · rintro ⟨j, k, h1, h2, h3, h4⟩
      rcases Nat.lt_or_ge k n with h5 | h5
      · have := ih.2 ⟨j, k, h1, h5, h3, h4⟩; omega
      · have : k = n := by omega
        subst this
        have := ip.2 ⟨j, h1, h3⟩
        rw [h4]; simp; omega
/-! ### The bit operations on numbers below 2^64 -/
theorem wrap_u64 {n : Int} (h1 : 0 ≤ n) (h2 : n < 18446744073709551616) : IntKind.u64.wrap n = n := by
  simp only [IntKind.wrap, IntKind.signed, IntKind.bits]
  simp
  omega
theorem bv_u64 (a : Nat) (h : a < 2 ^ 64) : (BitVec.ofInt 64 (a : Int)).toNat = a := by
  rw [BitVec.toNat_ofInt]; omega
theorem or_u64 (a b : Nat) (ha : a < 2 ^ 64) (hb : b < 2 ^ 64) : bitop .or .u64 a b = ((a ||| b : Nat) : Int) := by
  show IntKind.u64.wrap ((BitVec.ofInt 64 (a : Int) ||| BitVec.ofInt 64 (b : Int)).toNat : Int) = _
  rw [BitVec.toNat_or, bv_u64 a ha, bv_u64 b hb]
  have := Nat.or_lt_two_pow ha hb
  exact wrap_u64 (n := ((a ||| b : Nat) : Int)) (by omega) (by omega)
theorem and_u64 (a b : Nat) (ha : a < 2 ^ 64) (hb : b < 2 ^ 64) : bitop .and .u64 a b = ((a &&& b : Nat) : Int) := by
  show IntKind.u64.wrap ((BitVec.ofInt 64 (a : Int) &&& BitVec.ofInt 64 (b : Int)).toNat : Int) = _
  rw [BitVec.toNat_and, bv_u64 a ha, bv_u64 b hb]
  have := Nat.and_lt_two_pow a hb
  exact wrap_u64 (n := ((a &&& b : Nat) : Int)) (by omega) (by omega)
theorem shl_u64 (k : Nat) (hk : k < 64) : shlop .u64 1 (k : Int) = ((2 ^ k : Nat) : Int) := by
  unfold shlop
  have h1 : min ((k : Int).toNat) IntKind.u64.bits = k := by simp [IntKind.bits]; omega
  rw [h1]
  have h2 : (2 : Nat) ^ k < 2 ^ 64 := Nat.pow_lt_pow_right (by decide) hk
  have h3 : (1 : Int) * 2 ^ k = ((2 ^ k : Nat) : Int) := by simp
  rw [h3]
  exact wrap_u64 (Int.natCast_nonneg _) (by omega)
theorem shr_u64 (a k : Nat) (hk : k < 64) : shrop .u64 a (k : Int) = ((a / 2 ^ k : Nat) : Int) := by
  unfold shrop
  have h1 : min ((k : Int).toNat) IntKind.u64.bits = k := by simp [IntKind.bits]; omega
  rw [h1]
  have h3 : (2 : Int) ^ k = ((2 ^ k : Nat) : Int) := by simp
  rw [h3, Int.fdiv_eq_ediv_of_nonneg _ (Int.natCast_nonneg _)]
  rfl
end Abs
