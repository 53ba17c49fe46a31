/- nums.Zig, Zag and the references' own: what they answer. -/
import Derived.Test.YtihclbiohljmlaaNumsWd
namespace Go.Proofs.Ytihclbiohljmlaa
open Go.RowKit
set_option linter.unusedVariables false

theorem bits_xor_ones (a : Nat) (ha : a < 18446744073709551616) : a ^^^ 18446744073709551615 = 18446744073709551615 - a := by
  rw [show (18446744073709551615 : Nat) = 2 ^ 64 - 1 from rfl]
  have h : (2 ^ 64 - 1 : Nat) ^^^ a = 2 ^ 64 - 1 - a := by
    refine Nat.eq_of_testBit_eq fun i => ?_
    rw [Nat.testBit_xor, show 2 ^ 64 - 1 - a = 2 ^ 64 - (a + 1) from by omega, Nat.testBit_two_pow_sub_succ (x := a) (n := 64) ha, Nat.testBit_two_pow_sub_one]
    by_cases hi : i < 64
    · simp [hi]
    · have : a.testBit i = false := Nat.testBit_lt_two_pow (Nat.lt_of_lt_of_le ha (Nat.pow_le_pow_right (n := 2) (i := 64) (by decide) (by omega)))
      simp [hi, this]
  rw [Nat.xor_comm, h]

theorem wrap_u64_neg (x : Int) (h : x < 0) (h2 : -18446744073709551616 ≤ x) : IntKind.u64.wrap x = x + 18446744073709551616 := by rw [IntKind.wrap_u64]; omega

theorem zig_neg (v : Int) (h : v < 0) (h2 : -9223372036854775808 ≤ v) : bits .xor .u64 (IntKind.u64.wrap (IntKind.u64.wrap v * 2)) (IntKind.u64.wrap (v / 9223372036854775808)) = -2 * v - 1 := by
  have e1 : IntKind.u64.wrap (IntKind.u64.wrap v * 2) = (((2 * v + 18446744073709551616).toNat : Nat) : Int) := by
    rw [wrap_u64_neg v h (by omega), IntKind.wrap_u64]; omega
  have e2 : IntKind.u64.wrap (v / 9223372036854775808) = ((18446744073709551615 : Nat) : Int) := by rw [IntKind.wrap_u64]; omega
  rw [e1, e2, bits_xor_u64_nat _ _ (by omega) (by decide), bits_xor_ones _ (by omega)]
  omega

theorem zig_pos (v : Int) (h : 0 ≤ v) (h2 : v ≤ 9223372036854775807) : bits .xor .u64 (v * 2) (v / 9223372036854775808) = 2 * v := by
  have e1 : v * 2 = (((2 * v).toNat : Nat) : Int) := by omega
  have e2 : v / 9223372036854775808 = ((0 : Nat) : Int) := by omega
  rw [e2, e1, bits_xor_u64_nat _ _ (by omega) (by decide), Nat.xor_zero]
  omega

theorem even_or_one (k : Nat) : 2 * k ||| 1 = 2 * k + 1 := by
  have := Nat.two_pow_add_eq_or_of_lt (i := 1) (b := 1) (by decide) k
  rw [Nat.pow_one] at this
  exact this.symm

theorem zigr_neg (v : Int) (h : v < 0) (h2 : -9223372036854775808 ≤ v) : bits .or .u64 (-(v + 1) * 2) 1 = -2 * v - 1 := by
  have e1 : -(v + 1) * 2 = ((2 * (-(v + 1)).toNat : Nat) : Int) := by omega
  rw [e1, show (1 : Int) = ((1 : Nat) : Int) from rfl, bits_or_u64 _ _ (by omega) (by decide), even_or_one]
  omega

theorem and_one_u64' (u : Int) (h0 : 0 ≤ u) (h1 : u ≤ 18446744073709551615) : bits .and .u64 u 1 = u % 2 := by
  have e1 : u = ((u.toNat : Nat) : Int) := by omega
  rw [e1, show (1 : Int) = ((1 : Nat) : Int) from rfl, bits_and_u64 _ _ (by omega) (by decide), Nat.and_one_is_mod]
  omega

theorem xor_i64_zero (x : Int) (h0 : 0 ≤ x) (h1 : x ≤ 9223372036854775807) : bits .xor .i64 x 0 = x := by
  have e : (BitVec.ofInt 64 x).toNat = x.toNat := by
    rw [show x = ((x.toNat : Nat) : Int) from by omega, BitVec.ofInt_natCast, BitVec.toNat_ofNat]
    simp only [Int.toNat_natCast]
    exact Nat.mod_eq_of_lt (by omega)
  show IntKind.i64.wrap ((BitVec.ofInt 64 x ^^^ BitVec.ofInt 64 0).toNat : Int) = _
  rw [BitVec.toNat_xor, e, show (BitVec.ofInt 64 0).toNat = 0 from by decide, Nat.xor_zero, IntWalk.i64_in _ (by omega)]
  omega

theorem xor_i64_ones (x : Int) (h0 : 0 ≤ x) (h1 : x ≤ 9223372036854775807) : bits .xor .i64 x (-1) = -x - 1 := by
  have e : (BitVec.ofInt 64 x).toNat = x.toNat := by
    rw [show x = ((x.toNat : Nat) : Int) from by omega, BitVec.ofInt_natCast, BitVec.toNat_ofNat]
    simp only [Int.toNat_natCast]
    exact Nat.mod_eq_of_lt (by omega)
  show IntKind.i64.wrap ((BitVec.ofInt 64 x ^^^ BitVec.ofInt 64 (-1)).toNat : Int) = _
  rw [BitVec.toNat_xor, e, show (BitVec.ofInt 64 (-1)).toNat = 18446744073709551615 from by decide, bits_xor_ones _ (by omega), IntKind.wrap_i64]
  omega

theorem zag_val (u : Int) (h0 : 0 ≤ u) (h1 : u ≤ 18446744073709551615) : bits .xor .i64 (u / 2) (wrap64 (-wrap64 (bits .and .u64 u 1))) = zagS u := by
  rw [and_one_u64' u h0 h1]
  unfold zagS
  by_cases h : u % 2 = 1
  · rw [if_pos h, h, show wrap64 (-wrap64 1) = -1 from by unfold wrap64; decide, xor_i64_ones _ (by omega) (by omega)]
  · rw [if_neg h, show u % 2 = 0 from by omega, show wrap64 (-wrap64 0) = 0 from by unfold wrap64; decide, xor_i64_zero _ (by omega) (by omega)]

theorem ret_u64 {k : IntKind} {a b : Int} (h : a = b) : Ending.returned (.int k a) = .returned (.int k b) := by rw [h]

set_option maxHeartbeats 800000 in
theorem zig_p (v : Int) (w : World) (hv : InI v) : Calls Try.prog 53 #[.int .i64 v] w fun e w' => e = .returned (.int .u64 (zigS v)) ∧ w = w' := by
  obtain ⟨a1, a2⟩ := hv
  by_cases h : v < 0
  · go_enter Try.func53, Try.ntmps53
    go_wp2
    go_ret
    exact ⟨ret_u64 (by rw [zig_neg v h a1]; unfold zigS; rw [if_pos h]), rfl⟩
  · go_enter Try.func53, Try.ntmps53
    go_wp2
    go_ret
    exact ⟨ret_u64 (by rw [zig_pos v (by omega) a2]; unfold zigS; rw [if_neg (by omega)]), rfl⟩
set_option maxHeartbeats 800000 in
theorem zig_r (v : Int) (w : World) (hv : InI v) : Calls Try.prog 54 #[.int .i64 v] w fun e w' => e = .returned (.int .u64 (zigS v)) ∧ w = w' := by
  obtain ⟨a1, a2⟩ := hv
  by_cases h : v < 0
  · go_enter Try.func54, Try.ntmps54
    go_wp2
    go_ret
    exact ⟨ret_u64 (by rw [zigr_neg v h a1]; unfold zigS; rw [if_pos h]), rfl⟩
  · go_enter Try.func54, Try.ntmps54
    go_wp2
    go_ret
    exact ⟨ret_u64 (by unfold zigS; rw [if_neg (by omega)]; omega), rfl⟩
set_option maxHeartbeats 800000 in
theorem zag_p (u : Int) (w : World) (h0 : 0 ≤ u) (h1 : u ≤ 18446744073709551615) : Calls Try.prog 41 #[.int .u64 u] w fun e w' => e = .returned (.int .i64 (zagS u)) ∧ w = w' := by
  go_enter Try.func41, Try.ntmps41
  go_wp2
  go_ret
  exact ⟨ret_u64 (zag_val u h0 h1), rfl⟩
set_option maxHeartbeats 800000 in
theorem zag_r (u : Int) (w : World) (h0 : 0 ≤ u) (h1 : u ≤ 18446744073709551615) : Calls Try.prog 42 #[.int .u64 u] w fun e w' => e = .returned (.int .i64 (zagS u)) ∧ w = w' := by
  have ha := and_one_u64' u h0 h1
  by_cases h : u % 2 = 1
  · have hb : (bits .and .u64 u 1 == 1) = true := by rw [ha, h]; rfl
    clear ha
    go_enter Try.func42, Try.ntmps42
    go_wp2
    go_ret
    exact ⟨ret_u64 (by unfold zagS; rw [if_pos h]), rfl⟩
  · have hb : (bits .and .u64 u 1 == 1) = false := by rw [ha, show u % 2 = 0 from by omega]; rfl
    clear ha
    go_enter Try.func42, Try.ntmps42
    go_wp2
    go_ret
    exact ⟨ret_u64 (by unfold zagS; rw [if_neg h]), rfl⟩
end Go.Proofs.Ytihclbiohljmlaa
