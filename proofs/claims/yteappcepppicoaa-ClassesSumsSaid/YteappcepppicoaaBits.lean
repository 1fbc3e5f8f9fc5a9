/- Masks of int64: plain words. -/
import Derived.WalkKit
namespace Go.HK
open Go Go.RowKit

theorem and_24 (n : Int) : bits .and .i64 n 16777215 = n % 16777216 := by
  have hm : (BitVec.ofInt 64 16777215).toNat = 2 ^ 24 - 1 := by decide
  have key : (BitVec.ofInt 64 n &&& BitVec.ofInt 64 16777215).toNat = (n % ((2 ^ 64 : Nat) : Int)).toNat % 2 ^ 24 := by
    rw [BitVec.toNat_and, BitVec.toNat_ofInt, hm, Nat.and_two_pow_sub_one_eq_mod]
  show IntKind.i64.wrap ((BitVec.ofInt 64 n &&& BitVec.ofInt 64 16777215).toNat : Nat) = n % 16777216
  rw [key, IntKind.wrap_i64]
  omega
theorem and_32 (n : Int) : bits .and .i64 n 4294967295 = n % 4294967296 := by
  have hm : (BitVec.ofInt 64 4294967295).toNat = 2 ^ 32 - 1 := by decide
  have key : (BitVec.ofInt 64 n &&& BitVec.ofInt 64 4294967295).toNat = (n % ((2 ^ 64 : Nat) : Int)).toNat % 2 ^ 32 := by
    rw [BitVec.toNat_and, BitVec.toNat_ofInt, hm, Nat.and_two_pow_sub_one_eq_mod]
  show IntKind.i64.wrap ((BitVec.ofInt 64 n &&& BitVec.ofInt 64 4294967295).toNat : Nat) = n % 4294967296
  rw [key, IntKind.wrap_i64]
  omega
theorem wraps_i64 (n : Int) (h₀ : 0 ≤ n) (h₁ : n < 2 ^ 63) : IntKind.i64.wrap n = n := by rw [IntKind.wrap_i64]; omega
/-- x | y where x ends in i zeros and y is short -/
theorem or_join (i : Nat) (x y : Int) (hx₀ : 0 ≤ x) (hx : x % 2 ^ i = 0) (hx₁ : x < 2 ^ 63) (hy₀ : 0 ≤ y) (hy : y < 2 ^ i) (hy₁ : y < 2 ^ 63) : bits .or .i64 x y = x + y :=
  bits_join .i64 63 (by decide) wraps_i64 i x y hx₀ hx hx₁ hy₀ hy hy₁
end Go.HK
