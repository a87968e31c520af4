/- Ab.Num64: numbers of 64 bits that are not below 0. -/
import Derived.Test.YtgnlnkbkbddfaaaAbNum
namespace Go.Ab

theorem ofInt_nat (w n : Nat) : BitVec.ofInt w (n : Int) = BitVec.ofNat w n := BitVec.ofInt_natCast ..

theorem or64 (a b : Nat) (ha : a < 9223372036854775808) (hb : b < 9223372036854775808) : bits .or .i64 a b = some ((a ||| b : Nat) : Int) := by
  show some (IntKind.i64.wrap ((BitVec.ofInt 64 a ||| BitVec.ofInt 64 b).toNat)) = _
  have : a ||| b < 2 ^ 63 := Nat.or_lt_two_pow (by omega) (by omega)
  rw [ofInt_nat, ofInt_nat, BitVec.toNat_or, BitVec.toNat_ofNat, BitVec.toNat_ofNat, Nat.mod_eq_of_lt (by omega), Nat.mod_eq_of_lt (by omega), wrap64 (by omega) (by omega)]

theorem and64 (a b : Nat) (ha : a < 9223372036854775808) (hb : b < 9223372036854775808) : bits .and .i64 a b = some ((a &&& b : Nat) : Int) := by
  show some (IntKind.i64.wrap ((BitVec.ofInt 64 a &&& BitVec.ofInt 64 b).toNat)) = _
  have : a &&& b < 2 ^ 63 := Nat.and_lt_two_pow _ (by omega)
  rw [ofInt_nat, ofInt_nat, BitVec.toNat_and, BitVec.toNat_ofNat, BitVec.toNat_ofNat, Nat.mod_eq_of_lt (by omega), Nat.mod_eq_of_lt (by omega), wrap64 (by omega) (by omega)]

theorem or64l (a n : Nat) (ha : a < 9223372036854775808) (hb : n < 9223372036854775808) : bits .or .i64 a (no_index (OfNat.ofNat n : Int)) = some ((a ||| n : Nat) : Int) := or64 a n ha hb
theorem and64l (a n : Nat) (ha : a < 9223372036854775808) (hb : n < 9223372036854775808) : bits .and .i64 a (no_index (OfNat.ofNat n : Int)) = some ((a &&& n : Nat) : Int) := and64 a n ha hb
theorem w8_nat (m : Nat) : IntKind.u8.wrap (m : Int) = ((BitVec.ofNat 8 m).toNat : Int) := by rw [wrapU8, BitVec.toNat_ofNat]; omega
theorem shr64_7 (n : Nat) : Int.fdiv (n : Int) (2 ^ min 7 64) = ((n / 128 : Nat) : Int) := by
  rw [show ((2 : Int) ^ min 7 64) = 128 from rfl, Int.fdiv_eq_ediv_of_nonneg _ (by omega)]; omega

theorem bits_and8l (a : BitVec 8) (n : Nat) : bits .and .u8 a.toNat (no_index (OfNat.ofNat n : Int)) = some ((a &&& BitVec.ofNat 8 n).toNat : Int) := by
  show some (IntKind.u8.wrap ((BitVec.ofInt 8 a.toNat &&& BitVec.ofInt 8 (OfNat.ofNat n)).toNat)) = _
  rw [show BitVec.ofInt 8 (a.toNat : Int) = a by simp, ofIntLit, w8_8]

theorem w64_8 (a : BitVec 8) : IntKind.i64.wrap a.toNat = a.toNat := wrap64 (by omega) (by have := a.isLt; omega)
theorem w64_32 (a : BitVec 32) : IntKind.i64.wrap a.toNat = a.toNat := wrap64 (by omega) (by have := a.isLt; omega)
theorem ofInt8 (a : BitVec 8) : BitVec.ofInt 8 a.toNat = a := by simp

theorem shl7_lt (c : BitVec 8) {i : Nat} (hi : i ≤ 6) : (c &&& 127#8).toNat * 2 ^ (7 * i) < 1125899906842624 := by
  have h1 : (c &&& 127#8).toNat ≤ 127 := by rw [BitVec.toNat_and]; exact Nat.and_le_right
  have h2 : 2 ^ (7 * i) ≤ 2 ^ 42 := Nat.pow_le_pow_right (by omega) (by omega)
  calc (c &&& 127#8).toNat * 2 ^ (7 * i) ≤ 127 * 2 ^ 42 := Nat.mul_le_mul h1 h2
    _ < 1125899906842624 := by omega

theorem shl7 (c : BitVec 8) {i : Nat} (hi : i ≤ 6) : IntKind.i64.wrap (((c &&& 127#8).toNat : Int) * 2 ^ min (7 * (i : Int)).toNat 64) = (((c &&& 127#8).toNat * 2 ^ (7 * i) : Nat) : Int) := by
  have h := shl7_lt c hi
  rw [show (7 * (i : Int)).toNat = 7 * i from by omega, Nat.min_eq_left (by omega)]
  rw [show (((c &&& 127#8).toNat : Int) * 2 ^ (7 * i)) = (((c &&& 127#8).toNat * 2 ^ (7 * i) : Nat) : Int) by rw [Int.natCast_mul, Int.natCast_pow]; rfl]
  exact wrap64 (by omega) (by omega)

attribute [go_sem] ofInt8 bits_and8l w64_8 w64_32

end Go.Ab
