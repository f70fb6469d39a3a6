/- The machine's integer operations on natural numbers. -/
import Derived.Test.YtopfjochppdnfaaDoorAbsEntry
set_option linter.unusedVariables false
set_option linter.unusedSimpArgs false
namespace Go.Abs

@[simp] theorem wr_u64 (n : Int) : IntKind.u64.wrap n = n % 18446744073709551616 := by simp [IntKind.wrap, IntKind.bits, IntKind.signed]
@[simp] theorem wr_u32 (n : Int) : IntKind.u32.wrap n = n % 4294967296 := by simp [IntKind.wrap, IntKind.bits, IntKind.signed]
@[simp] theorem wr_u8 (n : Int) : IntKind.u8.wrap n = n % 256 := by simp [IntKind.wrap, IntKind.bits, IntKind.signed]

theorem bv_nat (w a : Nat) : BitVec.ofInt w (a : Int) = BitVec.ofNat w a := by simp

theorem bv_and (w a b : Nat) (ha : a < 2 ^ w) (hb : b < 2 ^ w) : (BitVec.ofInt w (a : Int) &&& BitVec.ofInt w (b : Int)).toNat = a &&& b := by
  rw [bv_nat, bv_nat, BitVec.toNat_and, BitVec.toNat_ofNat, BitVec.toNat_ofNat, Nat.mod_eq_of_lt ha, Nat.mod_eq_of_lt hb]
theorem bv_or (w a b : Nat) (ha : a < 2 ^ w) (hb : b < 2 ^ w) : (BitVec.ofInt w (a : Int) ||| BitVec.ofInt w (b : Int)).toNat = a ||| b := by
  rw [bv_nat, bv_nat, BitVec.toNat_or, BitVec.toNat_ofNat, BitVec.toNat_ofNat, Nat.mod_eq_of_lt ha, Nat.mod_eq_of_lt hb]
theorem bv_xor (w a b : Nat) (ha : a < 2 ^ w) (hb : b < 2 ^ w) : (BitVec.ofInt w (a : Int) ^^^ BitVec.ofInt w (b : Int)).toNat = a ^^^ b := by
  rw [bv_nat, bv_nat, BitVec.toNat_xor, BitVec.toNat_ofNat, BitVec.toNat_ofNat, Nat.mod_eq_of_lt ha, Nat.mod_eq_of_lt hb]

theorem iAnd_u64 (a b : Nat) (ha : a < 18446744073709551616) (hb : b < 18446744073709551616) : iAnd .u64 a b = ((a &&& b : Nat) : Int) := by
  unfold iAnd
  rw [bv_and _ a b (by simpa [IntKind.bits] using ha) (by simpa [IntKind.bits] using hb), wr_u64]
  have : a &&& b < 2 ^ 64 := Nat.and_lt_two_pow _ (by simpa using hb)
  omega
theorem iOr_u64 (a b : Nat) (ha : a < 18446744073709551616) (hb : b < 18446744073709551616) : iOr .u64 a b = ((a ||| b : Nat) : Int) := by
  unfold iOr
  rw [bv_or _ a b (by simpa [IntKind.bits] using ha) (by simpa [IntKind.bits] using hb), wr_u64]
  have : a ||| b < 2 ^ 64 := Nat.or_lt_two_pow (by simpa using ha) (by simpa using hb)
  omega
theorem iXor_u64 (a b : Nat) (ha : a < 18446744073709551616) (hb : b < 18446744073709551616) : iXor .u64 a b = ((a ^^^ b : Nat) : Int) := by
  unfold iXor
  rw [bv_xor _ a b (by simpa [IntKind.bits] using ha) (by simpa [IntKind.bits] using hb), wr_u64]
  have : a ^^^ b < 2 ^ 64 := Nat.xor_lt_two_pow (by simpa using ha) (by simpa using hb)
  omega
theorem iAnd_u8 (a b : Nat) (ha : a < 256) (hb : b < 256) : iAnd .u8 a b = ((a &&& b : Nat) : Int) := by
  unfold iAnd
  rw [bv_and _ a b (by simpa [IntKind.bits] using ha) (by simpa [IntKind.bits] using hb), wr_u8]
  have : a &&& b < 2 ^ 8 := Nat.and_lt_two_pow _ (by simpa using hb)
  omega
theorem iOr_u8 (a b : Nat) (ha : a < 256) (hb : b < 256) : iOr .u8 a b = ((a ||| b : Nat) : Int) := by
  unfold iOr
  rw [bv_or _ a b (by simpa [IntKind.bits] using ha) (by simpa [IntKind.bits] using hb), wr_u8]
  have : a ||| b < 2 ^ 8 := Nat.or_lt_two_pow (by simpa using ha) (by simpa using hb)
  omega
theorem iShl_u64 (a b : Nat) (hb : b < 64) : iShl .u64 a b = ((a * 2 ^ b % 18446744073709551616 : Nat) : Int) := by
  unfold iShl
  rw [wr_u64]
  have : min (b : Int).toNat IntKind.u64.bits = b := by simp [IntKind.bits]; omega
  rw [this, Int.natCast_emod, Int.natCast_mul, Int.natCast_pow]
  rfl
theorem iShr_u64 (a b : Nat) (hb : b < 64) : iShr .u64 a b = ((a / 2 ^ b : Nat) : Int) := by
  unfold iShr
  have : min (b : Int).toNat IntKind.u64.bits = b := by simp [IntKind.bits]; omega
  rw [this, Int.fdiv_eq_ediv_of_nonneg _ (Int.le_of_lt (Int.pow_pos (by decide))), Int.natCast_ediv, Int.natCast_pow]
  rfl
theorem iShr_i64 (a : Int) (b : Nat) (hb : b < 64) : iShr .i64 a b = a / 2 ^ b := by
  unfold iShr
  have : min (b : Int).toNat IntKind.i64.bits = b := by simp [IntKind.bits]; omega
  rw [this, Int.fdiv_eq_ediv_of_nonneg _ (Int.le_of_lt (Int.pow_pos (by decide)))]

theorem or_add (a b i : Nat) (hb : b < 2 ^ i) : b ||| a * 2 ^ i = b + a * 2 ^ i := by
  rw [Nat.or_comm, Nat.mul_comm, ← Nat.two_pow_add_eq_or_of_lt hb, Nat.add_comm]

end Go.Abs
