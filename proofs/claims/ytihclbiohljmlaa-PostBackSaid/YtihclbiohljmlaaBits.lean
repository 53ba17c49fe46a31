/- Bits of unsigned numbers, as the walk writes them. -/
import Derived.Test.YtihclbiohljmlaaBase
namespace Go.Proofs.Ytihclbiohljmlaa
open Go.RowKit

theorem wrap_u8 (n : Int) : IntKind.u8.wrap n = n % 256 := by simp [IntKind.wrap, IntKind.bits, IntKind.signed]

theorem bits_and_u64 (a b : Nat) (ha : a < 18446744073709551616) (hb : b < 18446744073709551616) : bits .and .u64 (a : Int) (b : Int) = ((a &&& b : Nat) : Int) := by
  have h1 : (BitVec.ofInt 64 (a : Int)).toNat = a := by rw [BitVec.ofInt_natCast, BitVec.toNat_ofNat]; exact Nat.mod_eq_of_lt (by omega)
  have h2 : (BitVec.ofInt 64 (b : Int)).toNat = b := by rw [BitVec.ofInt_natCast, BitVec.toNat_ofNat]; exact Nat.mod_eq_of_lt (by omega)
  show IntKind.u64.wrap ((BitVec.ofInt 64 (a : Int) &&& BitVec.ofInt 64 (b : Int)).toNat : Int) = _
  rw [BitVec.toNat_and, h1, h2, IntKind.wrap_u64]
  have : a &&& b ≤ a := Nat.and_le_left
  omega

theorem bits_or_u64 (a b : Nat) (ha : a < 18446744073709551616) (hb : b < 18446744073709551616) : bits .or .u64 (a : Int) (b : Int) = ((a ||| b : Nat) : Int) := by
  have h1 : (BitVec.ofInt 64 (a : Int)).toNat = a := by rw [BitVec.ofInt_natCast, BitVec.toNat_ofNat]; exact Nat.mod_eq_of_lt (by omega)
  have h2 : (BitVec.ofInt 64 (b : Int)).toNat = b := by rw [BitVec.ofInt_natCast, BitVec.toNat_ofNat]; exact Nat.mod_eq_of_lt (by omega)
  show IntKind.u64.wrap ((BitVec.ofInt 64 (a : Int) ||| BitVec.ofInt 64 (b : Int)).toNat : Int) = _
  rw [BitVec.toNat_or, h1, h2, IntKind.wrap_u64]
  have : a ||| b < 2 ^ 64 := Nat.or_lt_two_pow (by omega) (by omega)
  omega

theorem bits_and_u8 (a b : Nat) (ha : a < 256) (hb : b < 256) : bits .and .u8 (a : Int) (b : Int) = ((a &&& b : Nat) : Int) := by
  have h1 : (BitVec.ofInt 8 (a : Int)).toNat = a := by rw [BitVec.ofInt_natCast, BitVec.toNat_ofNat]; exact Nat.mod_eq_of_lt (by omega)
  have h2 : (BitVec.ofInt 8 (b : Int)).toNat = b := by rw [BitVec.ofInt_natCast, BitVec.toNat_ofNat]; exact Nat.mod_eq_of_lt (by omega)
  show IntKind.u8.wrap ((BitVec.ofInt 8 (a : Int) &&& BitVec.ofInt 8 (b : Int)).toNat : Int) = _
  rw [BitVec.toNat_and, h1, h2, wrap_u8]
  have : a &&& b ≤ a := Nat.and_le_left
  omega

theorem bits_or_u8 (a b : Nat) (ha : a < 256) (hb : b < 256) : bits .or .u8 (a : Int) (b : Int) = ((a ||| b : Nat) : Int) := by
  have h1 : (BitVec.ofInt 8 (a : Int)).toNat = a := by rw [BitVec.ofInt_natCast, BitVec.toNat_ofNat]; exact Nat.mod_eq_of_lt (by omega)
  have h2 : (BitVec.ofInt 8 (b : Int)).toNat = b := by rw [BitVec.ofInt_natCast, BitVec.toNat_ofNat]; exact Nat.mod_eq_of_lt (by omega)
  show IntKind.u8.wrap ((BitVec.ofInt 8 (a : Int) ||| BitVec.ofInt 8 (b : Int)).toNat : Int) = _
  rw [BitVec.toNat_or, h1, h2, wrap_u8]
  have : a ||| b < 2 ^ 8 := Nat.or_lt_two_pow (by omega) (by omega)
  omega

theorem pow_le64 (q : Nat) (hq : q ≤ 63) : 2 ^ q ≤ 9223372036854775808 := Nat.pow_le_pow_right (n := 2) (by decide) hq

theorem mask_u64 (q : Nat) (hq : q ≤ 63) : IntKind.u64.wrap (IntKind.u64.wrap (2 ^ q) - 1) = ((2 ^ q - 1 : Nat) : Int) := by
  have h := pow_le64 q hq
  have h0 : 0 < 2 ^ q := Nat.two_pow_pos q
  rw [IntKind.wrap_u64, IntKind.wrap_u64]
  have e : (2 : Int) ^ q = ((2 ^ q : Nat) : Int) := by simp
  rw [e]
  omega

theorem mask_u8 (q : Nat) (hq : q ≤ 8) : IntKind.u8.wrap (IntKind.u8.wrap (2 ^ q) - 1) = ((2 ^ q - 1 : Nat) : Int) := by
  have h : 2 ^ q ≤ 256 := Nat.pow_le_pow_right (n := 2) (by decide) hq
  have h0 : 0 < 2 ^ q := Nat.two_pow_pos q
  rw [wrap_u8, wrap_u8]
  have e : (2 : Int) ^ q = ((2 ^ q : Nat) : Int) := by simp
  rw [e]
  omega

theorem and_mask_u64 (a q : Nat) (ha : a < 18446744073709551616) (hq : q ≤ 63) : bits .and .u64 (a : Int) (IntKind.u64.wrap (IntKind.u64.wrap (2 ^ q) - 1)) = ((a % 2 ^ q : Nat) : Int) := by
  have h := pow_le64 q hq
  rw [mask_u64 q hq, bits_and_u64 _ _ ha (by omega), Nat.and_two_pow_sub_one_eq_mod]

theorem and_mask_u8 (a q : Nat) (ha : a < 256) (hq : q ≤ 8) : bits .and .u8 (a : Int) (IntKind.u8.wrap (IntKind.u8.wrap (2 ^ q) - 1)) = ((a % 2 ^ q : Nat) : Int) := by
  have h : 2 ^ q ≤ 256 := Nat.pow_le_pow_right (n := 2) (by decide) hq
  have h0 : 0 < 2 ^ q := Nat.two_pow_pos q
  rw [mask_u8 q hq, bits_and_u8 _ _ ha (by omega), Nat.and_two_pow_sub_one_eq_mod]

theorem div_pow_cast (x s : Nat) : (x : Int) / 2 ^ s = ((x / 2 ^ s : Nat) : Int) := by simp

/-- 'byte(v >> s & (1<<q - 1))'. -/
theorem part_u64 (x s q : Nat) (hx : x < 18446744073709551616) (hq : q ≤ 8) :
    bits .and .u64 ((x : Int) / 2 ^ s) (IntKind.u64.wrap (IntKind.u64.wrap (2 ^ q) - 1)) % 256 = ((x / 2 ^ s % 2 ^ q : Nat) : Int) := by
  have h : 2 ^ q ≤ 256 := Nat.pow_le_pow_right (n := 2) (by decide) hq
  have h0 : 0 < 2 ^ q := Nat.two_pow_pos q
  have h1 : x / 2 ^ s ≤ x := Nat.div_le_self _ _
  rw [div_pow_cast, and_mask_u64 _ _ (by omega) (by omega)]
  have h2 := Nat.mod_lt (x / 2 ^ s) h0
  omega

/-- 'c >> s & (1<<q - 1)' of a byte. -/
theorem part_u8 (x s q : Nat) (hx : x < 256) (hq : q ≤ 8) : bits .and .u8 ((x : Int) / 2 ^ s) ((2 ^ q - 1) % 256) = ((x / 2 ^ s % 2 ^ q : Nat) : Int) := by
  have h : 2 ^ q ≤ 256 := Nat.pow_le_pow_right (n := 2) (by decide) hq
  have h0 : 0 < 2 ^ q := Nat.two_pow_pos q
  have h1 : x / 2 ^ s ≤ x := Nat.div_le_self _ _
  have e : ((2 : Int) ^ q - 1) % 256 = ((2 ^ q - 1 : Nat) : Int) := by
    have e : (2 : Int) ^ q = ((2 ^ q : Nat) : Int) := by simp
    rw [e]; omega
  rw [div_pow_cast, e, bits_and_u8 _ _ (by omega) (by omega), Nat.and_two_pow_sub_one_eq_mod]

/-- 'v >> k & 1 == 1'. -/
theorem bit_test_u64 (x k : Nat) (hx : x < 18446744073709551616) : (bits .and .u64 ((x : Int) / 2 ^ k) 1 == 1) = x.testBit k := by
  have h1 : x / 2 ^ k ≤ x := Nat.div_le_self _ _
  rw [div_pow_cast, show (1 : Int) = ((1 : Nat) : Int) from rfl, bits_and_u64 _ _ (by omega) (by decide), Nat.and_one_is_mod, Nat.testBit_eq_decide_div_mod_eq]
  generalize x / 2 ^ k % 2 = z
  by_cases hz : z = 1
  · subst hz; rfl
  · rw [decide_eq_false hz, beq_eq_false_iff_ne]; omega
end Go.Proofs.Ytihclbiohljmlaa
