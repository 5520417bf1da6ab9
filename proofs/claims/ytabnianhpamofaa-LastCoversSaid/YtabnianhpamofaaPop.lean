/- How Go's library counts the bits of a number. -/
import Derived.Test.YtabnianhpamofaaBits
set_option linter.unusedSectionVars false
set_option linter.unusedSimpArgs false
set_option linter.unusedVariables false
set_option maxRecDepth 100000
namespace Abs
open Go
/-- n bytes, the least first. -/
def byt : (Nat → Nat) → Nat → Nat
  | _, 0 => 0
  | f, n + 1 => f 0 + 256 * byt (fun i => f (i + 1)) n
def repb (c : Nat) : Nat → Nat
  | 0 => 0
  | n + 1 => c + 256 * repb c n
theorem and_split (b c q d : Nat) (hb : b < 256) (hc : c < 256) : (b + 256 * q) &&& (c + 256 * d) = (b &&& c) + 256 * (q &&& d) := by
  refine Nat.eq_of_testBit_eq fun k => ?_
  have hbc : b &&& c < 256 := Nat.lt_of_le_of_lt Nat.and_le_left hb
  rw [Nat.testBit_and, show b + 256 * q = 2 ^ 8 * q + b by omega, show c + 256 * d = 2 ^ 8 * d + c by omega, show (b &&& c) + 256 * (q &&& d) = 2 ^ 8 * (q &&& d) + (b &&& c) by omega,
    Nat.testBit_two_pow_mul_add _ hb, Nat.testBit_two_pow_mul_add _ hc, Nat.testBit_two_pow_mul_add _ hbc]
  split <;> simp [Nat.testBit_and]
def t1 (b : Nat) : Nat := (b / 2 &&& 85) + (b &&& 85)
def t2 (b : Nat) : Nat := (b / 4 &&& 51) + (b &&& 51)
def t3 (b : Nat) : Nat := (b / 16 + b) % 16
def s1 (n x : Nat) : Nat := (x / 2 &&& repb 85 n) + (x &&& repb 85 n)
def s2 (n x : Nat) : Nat := (x / 4 &&& repb 51 n) + (x &&& repb 51 n)
def s3 (n x : Nat) : Nat := (x / 16 + x) &&& repb 15 n
theorem half_and : ∀ b, b < 256 → ∀ r, r < 2 → (b / 2 + 128 * r) &&& 85 = b / 2 &&& 85 := by decide +kernel
theorem quart_and : ∀ b, b < 256 → ∀ r, r < 4 → (b / 4 + 64 * r) &&& 51 = b / 4 &&& 51 := by decide +kernel
theorem s1_byt : ∀ n (f : Nat → Nat), (∀ i, f i < 256) → s1 n (byt f n) = byt (fun i => t1 (f i)) n
  | 0, _, _ => by simp [s1, byt, repb]
  | n + 1, f, h => by
    have ih := s1_byt n (fun i => f (i + 1)) (fun i => h (i + 1))
    unfold s1 at ih ⊢
    simp only [byt, repb]
    rw [← ih]
    generalize byt (fun i => f (i + 1)) n = q
    have h0 := h 0
    generalize f 0 = b at h0 ⊢
    rw [show (b + 256 * q) / 2 = (b / 2 + 128 * (q % 2)) + 256 * (q / 2) by omega, and_split _ _ _ _ (by omega) (by decide), and_split _ _ _ _ h0 (by decide), half_and b h0 _ (by omega)]
    unfold t1
    omega
theorem s2_byt : ∀ n (f : Nat → Nat), (∀ i, f i < 256) → s2 n (byt f n) = byt (fun i => t2 (f i)) n
  | 0, _, _ => by simp [s2, byt, repb]
  | n + 1, f, h => by
    have ih := s2_byt n (fun i => f (i + 1)) (fun i => h (i + 1))
    unfold s2 at ih ⊢
    simp only [byt, repb]
    rw [← ih]
    generalize byt (fun i => f (i + 1)) n = q
    have h0 := h 0
    generalize f 0 = b at h0 ⊢
    rw [show (b + 256 * q) / 4 = (b / 4 + 64 * (q % 4)) + 256 * (q / 4) by omega, and_split _ _ _ _ (by omega) (by decide), and_split _ _ _ _ h0 (by decide), quart_and b h0 _ (by omega)]
    unfold t2
    omega
theorem byt_mod : ∀ n (f : Nat → Nat), (∀ i, f i % 16 ≤ 4) → byt f n % 16 ≤ 4
  | 0, _, _ => by simp [byt]
  | n + 1, f, h => by have := h 0; simp only [byt]; omega
theorem s3_byt : ∀ n (f : Nat → Nat), (∀ i, f i < 256 ∧ f i % 16 ≤ 4 ∧ f i / 16 ≤ 4) → s3 n (byt f n) = byt (fun i => t3 (f i)) n
  | 0, _, _ => by simp [s3, byt, repb]
  | n + 1, f, h => by
    have ih := s3_byt n (fun i => f (i + 1)) (fun i => h (i + 1))
    have hm := byt_mod n (fun i => f (i + 1)) (fun i => (h (i + 1)).2.1)
    unfold s3 at ih ⊢
    simp only [byt, repb]
    rw [← ih]
    generalize byt (fun i => f (i + 1)) n = q at hm ⊢
    have h0 := h 0
    generalize f 0 = b at h0 ⊢
    rw [show (b + 256 * q) / 16 + (b + 256 * q) = (b / 16 + b + 16 * (q % 16)) + 256 * (q / 16 + q) by omega, and_split _ _ _ _ (by omega) (by decide)]
    have e : (b / 16 + b + 16 * (q % 16)) &&& 15 = t3 b := by
      rw [show (15 : Nat) = 2 ^ 4 - 1 by decide, Nat.and_two_pow_sub_one_eq_mod]
      unfold t3
      omega
    rw [e]
theorem byte_bits : ∀ b, b < 256 → t3 (t2 (t1 b)) = cnt b.testBit 8 := by decide +kernel
theorem t1_lt : ∀ b, b < 256 → t1 b < 256 := by decide +kernel
theorem t2_lt : ∀ b, b < 256 → t2 (t1 b) < 256 ∧ t2 (t1 b) % 16 ≤ 4 ∧ t2 (t1 b) / 16 ≤ 4 := by decide +kernel
/-- The bytes of a number. -/
def bytesOf (x i : Nat) : Nat := x / 256 ^ i % 256
theorem byt_bytes : ∀ n x, x < 256 ^ n → byt (bytesOf x) n = x
  | 0, x, h => by simp at h; subst h; rfl
  | n + 1, x, h => by
    have hs : (fun i => bytesOf x (i + 1)) = bytesOf (x / 256) := by
      funext i
      unfold bytesOf
      rw [Nat.pow_succ, Nat.mul_comm, Nat.div_div_eq_div_mul]
    simp only [byt]
    rw [hs, byt_bytes n (x / 256) (by rw [Nat.pow_succ] at h; omega)]
    simp only [bytesOf, Nat.pow_zero, Nat.div_one]
    omega
def sumN (f : Nat → Nat) : Nat → Nat
  | 0 => 0
  | n + 1 => f 0 + sumN (fun i => f (i + 1)) n
theorem cnt_add (p : Nat → Bool) (n : Nat) : ∀ d, cnt p (n + d) = cnt p n + cnt (fun k => p (n + k)) d
  | 0 => rfl
  | d + 1 => by rw [← Nat.add_assoc]; simp only [cnt]; rw [cnt_add p n d]; omega
theorem cnt_byt : ∀ n (f : Nat → Nat), (∀ i, f i < 256) → cnt (byt f n).testBit (8 * n) = sumN (fun i => cnt (f i).testBit 8) n
  | 0, _, _ => rfl
  | n + 1, f, h => by
    rw [show 8 * (n + 1) = 8 + 8 * n by omega, cnt_add]
    simp only [byt, sumN]
    rw [← cnt_byt n (fun i => f (i + 1)) (fun i => h (i + 1))]
    generalize byt (fun i => f (i + 1)) n = q
    have h0 := h 0
    generalize f 0 = b at h0 ⊢
    rw [show b + 256 * q = 2 ^ 8 * q + b by omega]
    congr 1
    · exact cnt_ext fun k hk => by rw [Nat.testBit_two_pow_mul_add _ h0, if_pos hk]
    · exact cnt_ext fun k hk => by rw [Nat.testBit_two_pow_mul_add _ h0, if_neg (by omega)]; congr 1; omega
theorem cnt8_le (b : Nat) : cnt b.testBit 8 ≤ 8 := cnt_le _ _
/-- What the library reckons. -/
def ones (x : Nat) : Nat :=
  let x := s1 8 x
  let x := s2 8 x
  let x := s3 8 x
  let x := x + x / 256
  let x := x + x / 65536
  let x := x + x / 4294967296
  x % 128
theorem div_of {x l q d : Nat} (h : x = l + d * q) (hl : l < d) : x / d = q := by
  subst h
  rw [Nat.add_mul_div_left _ _ (by omega), Nat.div_eq_of_lt hl, Nat.zero_add]
theorem id1 (a0 a1 a2 a3 a4 a5 a6 a7 : Nat) : a0 + 256 * (a1 + 256 * (a2 + 256 * (a3 + 256 * (a4 + 256 * (a5 + 256 * (a6 + 256 * (a7 + 256 * 0))))))) = a0 + 256 * (a1 + 256 * (a2 + 256 * (a3 + 256 * (a4 + 256 * (a5 + 256 * (a6 + 256 * (a7))))))) := by omega
theorem id2 (a0 a1 a2 a3 a4 a5 a6 a7 : Nat) : a0 + 256 * (a1 + 256 * (a2 + 256 * (a3 + 256 * (a4 + 256 * (a5 + 256 * (a6 + 256 * (a7 + 256 * 0))))))) + (a1 + 256 * (a2 + 256 * (a3 + 256 * (a4 + 256 * (a5 + 256 * (a6 + 256 * (a7))))))) = (a0 + a1) + 256 * ((a1 + a2) + 256 * ((a2 + a3) + 256 * ((a3 + a4) + 256 * ((a4 + a5) + 256 * ((a5 + a6) + 256 * ((a6 + a7) + 256 * (a7))))))) := by omega
theorem id2b (a0 a1 a2 a3 a4 a5 a6 a7 : Nat) : (a0 + a1) + 256 * ((a1 + a2) + 256 * ((a2 + a3) + 256 * ((a3 + a4) + 256 * ((a4 + a5) + 256 * ((a5 + a6) + 256 * ((a6 + a7) + 256 * (a7))))))) = ((a0 + a1) + 256 * (a1 + a2)) + 65536 * ((a2 + a3) + 256 * ((a3 + a4) + 256 * ((a4 + a5) + 256 * ((a5 + a6) + 256 * ((a6 + a7) + 256 * (a7)))))) := by omega
theorem id3 (a0 a1 a2 a3 a4 a5 a6 a7 : Nat) : (a0 + a1) + 256 * ((a1 + a2) + 256 * ((a2 + a3) + 256 * ((a3 + a4) + 256 * ((a4 + a5) + 256 * ((a5 + a6) + 256 * ((a6 + a7) + 256 * (a7))))))) + ((a2 + a3) + 256 * ((a3 + a4) + 256 * ((a4 + a5) + 256 * ((a5 + a6) + 256 * ((a6 + a7) + 256 * (a7)))))) = ((a0 + a1) + (a2 + a3)) + 256 * (((a1 + a2) + (a3 + a4)) + 256 * (((a2 + a3) + (a4 + a5)) + 256 * (((a3 + a4) + (a5 + a6)) + 256 * (((a4 + a5) + (a6 + a7)) + 256 * (((a5 + a6) + a7) + 256 * (((a6 + a7)) + 256 * ((a7)))))))) := by omega
theorem id3b (a0 a1 a2 a3 a4 a5 a6 a7 : Nat) : ((a0 + a1) + (a2 + a3)) + 256 * (((a1 + a2) + (a3 + a4)) + 256 * (((a2 + a3) + (a4 + a5)) + 256 * (((a3 + a4) + (a5 + a6)) + 256 * (((a4 + a5) + (a6 + a7)) + 256 * (((a5 + a6) + a7) + 256 * (((a6 + a7)) + 256 * ((a7)))))))) = (((a0 + a1) + (a2 + a3)) + 256 * ((a1 + a2) + (a3 + a4)) + 65536 * ((a2 + a3) + (a4 + a5)) + 16777216 * ((a3 + a4) + (a5 + a6))) + 4294967296 * (((a4 + a5) + (a6 + a7)) + 256 * (((a5 + a6) + a7) + 256 * (((a6 + a7)) + 256 * ((a7))))) := by omega
theorem id4 (a0 a1 a2 a3 a4 a5 a6 a7 : Nat) : ((a0 + a1) + (a2 + a3)) + 256 * (((a1 + a2) + (a3 + a4)) + 256 * (((a2 + a3) + (a4 + a5)) + 256 * (((a3 + a4) + (a5 + a6)) + 256 * (((a4 + a5) + (a6 + a7)) + 256 * (((a5 + a6) + a7) + 256 * (((a6 + a7)) + 256 * ((a7)))))))) + (((a4 + a5) + (a6 + a7)) + 256 * (((a5 + a6) + a7) + 256 * (((a6 + a7)) + 256 * ((a7))))) = (((a0 + a1) + (a2 + a3)) + ((a4 + a5) + (a6 + a7))) + 128 * (2 * ((((a1 + a2) + (a3 + a4)) + ((a5 + a6) + a7)) + 256 * ((((a2 + a3) + (a4 + a5)) + ((a6 + a7))) + 256 * ((((a3 + a4) + (a5 + a6)) + (a7)) + 256 * ((((a4 + a5) + (a6 + a7))) + 256 * ((((a5 + a6) + a7)) + 256 * ((((a6 + a7))) + 256 * (((a7)))))))))) := by omega
theorem fold_aux (X q1 Y1 q2 Y2 q3 S R : Nat) (h1 : X / 256 = q1) (h2 : X + q1 = Y1) (h3 : Y1 / 65536 = q2) (h4 : Y1 + q2 = Y2) (h5 : Y2 / 4294967296 = q3) (h6 : Y2 + q3 = S + 128 * R) (h7 : S < 128) :
    (X + X / 256 + (X + X / 256) / 65536 + (X + X / 256 + (X + X / 256) / 65536) / 4294967296) % 128 = S := by
  rw [h1, h2, h3, h4, h5, h6, Nat.add_mul_mod_self_left, Nat.mod_eq_of_lt h7]
theorem fold_sum (f : Nat → Nat) (h : ∀ i, f i ≤ 8) :
    (byt f 8 + byt f 8 / 256 + (byt f 8 + byt f 8 / 256) / 65536 + (byt f 8 + byt f 8 / 256 + (byt f 8 + byt f 8 / 256) / 65536) / 4294967296) % 128 = sumN f 8 := by
  have h0 := h 0
  have h1 := h 1
  have h2 := h 2
  have h3 := h 3
  have h4 := h 4
  have h5 := h 5
  have h6 := h 6
  have h7 := h 7
  have hX : byt f 8 = f 0 + 256 * (f 1 + 256 * (f 2 + 256 * (f 3 + 256 * (f 4 + 256 * (f 5 + 256 * (f 6 + 256 * (f 7 + 256 * 0))))))) := by simp only [byt, Nat.zero_add, Nat.reduceAdd]
  have hS : sumN f 8 = f 0 + (f 1 + (f 2 + (f 3 + (f 4 + (f 5 + (f 6 + (f 7 + 0))))))) := by simp only [sumN, Nat.zero_add, Nat.reduceAdd]
  refine (fold_aux (byt f 8) _ _ _ _ _ _ _ (div_of (hX.trans (id1 (f 0) (f 1) (f 2) (f 3) (f 4) (f 5) (f 6) (f 7))) ?_) ((congrArg (· + _) hX).trans (id2 (f 0) (f 1) (f 2) (f 3) (f 4) (f 5) (f 6) (f 7)))
    (div_of (id2b (f 0) (f 1) (f 2) (f 3) (f 4) (f 5) (f 6) (f 7)) ?_) (id3 (f 0) (f 1) (f 2) (f 3) (f 4) (f 5) (f 6) (f 7)) (div_of (id3b (f 0) (f 1) (f 2) (f 3) (f 4) (f 5) (f 6) (f 7)) ?_) (id4 (f 0) (f 1) (f 2) (f 3) (f 4) (f 5) (f 6) (f 7)) ?_).trans ?_
  · omega
  · omega
  · omega
  · omega
  · omega
theorem ones_pop (x : Nat) (hx : x < 2 ^ 64) : ones x = pop x := by
  have hb : ∀ i, bytesOf x i < 256 := fun i => Nat.mod_lt _ (by decide)
  have e := byt_bytes 8 x (by simpa using hx)
  have e1 := s1_byt 8 (bytesOf x) hb
  have e2 := s2_byt 8 (fun i => t1 (bytesOf x i)) (fun i => t1_lt _ (hb i))
  have e3 := s3_byt 8 (fun i => t2 (t1 (bytesOf x i))) (fun i => t2_lt _ (hb i))
  rw [e] at e1
  unfold ones
  simp only [e1, e2, e3]
  rw [fold_sum _ (fun i => by rw [byte_bits _ (hb i)]; exact cnt8_le _)]
  have e4 := cnt_byt 8 (bytesOf x) hb
  rw [e] at e4
  unfold pop
  rw [show (64 : Nat) = 8 * 8 by decide, e4]
  congr 1
  funext i
  exact byte_bits _ (hb i)
theorem s1_le (n x : Nat) : s1 n x ≤ 2 * repb 85 n := by
  unfold s1
  have h1 : (x / 2 &&& repb 85 n) ≤ repb 85 n := Nat.and_le_right
  have h2 : (x &&& repb 85 n) ≤ repb 85 n := Nat.and_le_right
  omega
theorem s2_le (n x : Nat) : s2 n x ≤ 2 * repb 51 n := by
  unfold s2
  have h1 : (x / 4 &&& repb 51 n) ≤ repb 51 n := Nat.and_le_right
  have h2 : (x &&& repb 51 n) ≤ repb 51 n := Nat.and_le_right
  omega
theorem s3_le (n x : Nat) : s3 n x ≤ repb 15 n := Nat.and_le_right
end Abs
