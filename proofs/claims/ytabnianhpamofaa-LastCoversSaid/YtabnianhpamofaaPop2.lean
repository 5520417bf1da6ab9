/- The steps of the count, as the machine makes them. -/
import Derived.Test.YtabnianhpamofaaPop
set_option linter.unusedSectionVars false
set_option linter.unusedSimpArgs false
set_option linter.unusedVariables false
set_option maxRecDepth 100000
namespace Abs
open Go
theorem r85 : repb 85 8 = 6148914691236517205 := by decide +kernel
theorem r51 : repb 51 8 = 3689348814741910323 := by decide +kernel
theorem r15 : repb 15 8 = 1085102592571150095 := by decide +kernel
theorem and_c (a c : Nat) (ha : a < 2 ^ 64) (hc : c < 2 ^ 64) : bitop .and .u64 (a : Int) ((c : Nat) : Int) = ((a &&& c : Nat) : Int) := and_u64 a c ha hc
theorem shr_c (a k : Nat) (hk : k < 64) : shrop .u64 (a : Int) ((k : Nat) : Int) = ((a / 2 ^ k : Nat) : Int) := shr_u64 a k hk
theorem wrap_n (n : Nat) (h : n < 2 ^ 64) : IntKind.u64.wrap (n : Int) = n := wrap_u64 (Int.natCast_nonneg _) (by omega)
theorem u1 (x : Nat) (hx : x < 2 ^ 64) : IntKind.u64.wrap (bitop .and .u64 (shrop .u64 x 1) 6148914691236517205 + bitop .and .u64 x 6148914691236517205) = (s1 8 x : Nat) := by
  have e1 := shr_c x 1 (by decide)
  have e2 := and_c (x / 2 ^ 1) 6148914691236517205 (by omega) (by decide)
  have e3 := and_c x 6148914691236517205 hx (by decide)
  have hb := s1_le 8 x
  rw [r85] at hb
  have e4 := wrap_n (s1 8 x) (by omega)
  have e5 : s1 8 x = (x / 2 ^ 1 &&& 6148914691236517205) + (x &&& 6148914691236517205) := by unfold s1; rw [r85]
  rw [show (1 : Int) = ((1 : Nat) : Int) by rfl, e1, show (6148914691236517205 : Int) = ((6148914691236517205 : Nat) : Int) by rfl, e2, e3, ← Int.natCast_add, ← e5, e4]
theorem u2 (x : Nat) (hx : x < 2 ^ 64) : IntKind.u64.wrap (bitop .and .u64 (shrop .u64 x 2) 3689348814741910323 + bitop .and .u64 x 3689348814741910323) = (s2 8 x : Nat) := by
  have e1 := shr_c x 2 (by decide)
  have e2 := and_c (x / 2 ^ 2) 3689348814741910323 (by omega) (by decide)
  have e3 := and_c x 3689348814741910323 hx (by decide)
  have hb := s2_le 8 x
  rw [r51] at hb
  have e4 := wrap_n (s2 8 x) (by omega)
  have e5 : s2 8 x = (x / 2 ^ 2 &&& 3689348814741910323) + (x &&& 3689348814741910323) := by unfold s2; rw [r51]
  rw [show (2 : Int) = ((2 : Nat) : Int) by rfl, e1, show (3689348814741910323 : Int) = ((3689348814741910323 : Nat) : Int) by rfl, e2, e3, ← Int.natCast_add, ← e5, e4]
theorem u3 (x : Nat) (hx : x < 2 ^ 63) : bitop .and .u64 (IntKind.u64.wrap (shrop .u64 x 4 + x)) 1085102592571150095 = (s3 8 x : Nat) := by
  have e1 := shr_c x 4 (by decide)
  have e2 := wrap_n (x / 2 ^ 4 + x) (by omega)
  have e3 := and_c (x / 2 ^ 4 + x) 1085102592571150095 (by omega) (by decide)
  have e5 : s3 8 x = (x / 2 ^ 4 + x) &&& 1085102592571150095 := by unfold s3; rw [r15]
  rw [show (4 : Int) = ((4 : Nat) : Int) by rfl, e1, ← Int.natCast_add, e2, show (1085102592571150095 : Int) = ((1085102592571150095 : Nat) : Int) by rfl, e3, ← e5]
theorem u4 (x k d : Nat) (hk : k < 64) (hd : 2 ^ k = d) (hd1 : 1 < d) (hx : x < 2 ^ 63) : IntKind.u64.wrap ((x : Int) + shrop .u64 x (k : Nat)) = (x + x / d : Nat) := by
  have h1 : x / d ≤ x := Nat.div_le_self _ _
  rw [shr_c x k hk, hd, ← Int.natCast_add, wrap_n _ (by omega)]
theorem u5 (x : Nat) (hx : x < 2 ^ 63) : bitop .and .i64 (IntKind.i64.wrap x) 127 = (x % 128 : Nat) := by
  have e1 : IntKind.i64.wrap (x : Int) = x := by rw [IntKind.wrap_i64] <;> omega
  rw [e1]
  show IntKind.i64.wrap ((BitVec.ofInt 64 (x : Int) &&& BitVec.ofInt 64 127).toNat : Int) = _
  rw [BitVec.toNat_and, bv_u64 x (by omega), show (BitVec.ofInt 64 127).toNat = 2 ^ 7 - 1 by decide, Nat.and_two_pow_sub_one_eq_mod, IntKind.wrap_i64] <;> omega
end Abs
