/- nums.Add, Sub, Zig, Zag and the references' own: what they answer. -/
import Derived.Test.YtepkboilfgmkkaaBits
namespace Go.Proofs.Ytepkboilfgmkkaa
open Go.RowKit
set_option linter.unusedVariables false

def InI (x : Int) : Prop := -9223372036854775808 ≤ x ∧ x ≤ 9223372036854775807
instance (x : Int) : Decidable (InI x) := by unfold InI; exact inferInstance
def addS (a b : Int) : Option Int := if InI (a + b) then some (a + b) else none
def subS (a b : Int) : Option Int := if InI (a - b) then some (a - b) else none
def zigS (v : Int) : Int := if v < 0 then -2 * v - 1 else 2 * v
def zagS (u : Int) : Int := if u % 2 = 1 then -(u / 2) - 1 else u / 2
def optV (r : Option Int) : Value := .tuple #[.int .i64 (r.getD 0), .bool r.isSome]

theorem wrap_hi (x : Int) (h : 9223372036854775807 < x) (h2 : x ≤ 18446744073709551616) : wrap64 x = x - 18446744073709551616 := by unfold wrap64; omega
theorem wrap_lo (x : Int) (h : x < -9223372036854775808) (h2 : -18446744073709551616 ≤ x) : wrap64 x = x + 18446744073709551616 := by unfold wrap64; omega

set_option maxHeartbeats 1600000 in
theorem add_p (a b : Int) (w : World) (ha : InI a) (hb : InI b) : Calls Try.prog 35 #[.int .i64 a, .int .i64 b] w fun e w' => e = .returned (optV (addS a b)) ∧ w = w' := by
  obtain ⟨a1, a2⟩ := ha
  obtain ⟨b1, b2⟩ := hb
  by_cases hin : InI (a + b)
  · have e : addS a b = some (a + b) := by unfold addS; rw [if_pos hin]
    rw [e]
    obtain ⟨i1, i2⟩ := hin
    unfold optV
    rcases Int.lt_trichotomy b 0 with h | h | h
    · have n0 : (b == 0) = false := beq_eq_false_iff_ne.2 (by omega)
      have n1 : (b != 0) = true := bne_iff_ne.2 (by omega)
      go_enter Try.func35, Try.ntmps35
      go_wp2
      go_ret2
      exact ⟨by first | rfl | simp, rfl⟩
    · subst h
      go_enter Try.func35, Try.ntmps35
      go_wp2
      go_ret2
      exact ⟨by first | rfl | simp, rfl⟩
    · have n0 : (b == 0) = false := beq_eq_false_iff_ne.2 (by omega)
      have n1 : (b != 0) = true := bne_iff_ne.2 (by omega)
      go_enter Try.func35, Try.ntmps35
      go_wp2
      go_ret2
      exact ⟨by first | rfl | simp, rfl⟩
  · have e : addS a b = none := by unfold addS; rw [if_neg hin]
    rw [e]
    unfold InI at hin
    unfold optV
    have n0 : (b == 0) = false := beq_eq_false_iff_ne.2 (by omega)
    have n1 : (b != 0) = true := bne_iff_ne.2 (by omega)
    rcases (show 9223372036854775807 < a + b ∨ a + b < -9223372036854775808 from by omega) with h | h
    · have hw := wrap_hi (a + b) h (by omega)
      have d1 : decide (a < a + b - 18446744073709551616) = false := by simp; omega
      have d2 : decide (0 < b) = true := by simp; omega
      clear n0
      go_enter Try.func35, Try.ntmps35
      go_wp2
      go_ret2
      exact ⟨by first | rfl | simp, rfl⟩
    · have hw := wrap_lo (a + b) h (by omega)
      have d1 : decide (a < a + b + 18446744073709551616) = true := by simp; omega
      have d2 : decide (0 < b) = false := by simp; omega
      clear n0
      go_enter Try.func35, Try.ntmps35
      go_wp2
      go_ret2
      exact ⟨by first | rfl | simp, rfl⟩

set_option maxHeartbeats 1600000 in
theorem sub_p (a b : Int) (w : World) (ha : InI a) (hb : InI b) : Calls Try.prog 37 #[.int .i64 a, .int .i64 b] w fun e w' => e = .returned (optV (subS a b)) ∧ w = w' := by
  obtain ⟨a1, a2⟩ := ha
  obtain ⟨b1, b2⟩ := hb
  by_cases hin : InI (a - b)
  · have e : subS a b = some (a - b) := by unfold subS; rw [if_pos hin]
    rw [e]
    obtain ⟨i1, i2⟩ := hin
    unfold optV
    rcases Int.lt_trichotomy b 0 with h | h | h
    · have n0 : (b == 0) = false := beq_eq_false_iff_ne.2 (by omega)
      have n1 : (b != 0) = true := bne_iff_ne.2 (by omega)
      go_enter Try.func37, Try.ntmps37
      go_wp2
      go_ret2
      exact ⟨by first | rfl | simp, rfl⟩
    · subst h
      go_enter Try.func37, Try.ntmps37
      go_wp2
      go_ret2
      exact ⟨by first | rfl | simp, rfl⟩
    · have n0 : (b == 0) = false := beq_eq_false_iff_ne.2 (by omega)
      have n1 : (b != 0) = true := bne_iff_ne.2 (by omega)
      go_enter Try.func37, Try.ntmps37
      go_wp2
      go_ret2
      exact ⟨by first | rfl | simp, rfl⟩
  · have e : subS a b = none := by unfold subS; rw [if_neg hin]
    rw [e]
    unfold InI at hin
    unfold optV
    have n0 : (b == 0) = false := beq_eq_false_iff_ne.2 (by omega)
    have n1 : (b != 0) = true := bne_iff_ne.2 (by omega)
    rcases (show 9223372036854775807 < a - b ∨ a - b < -9223372036854775808 from by omega) with h | h
    · have hw := wrap_hi (a - b) h (by omega)
      have d1 : decide (a - b - 18446744073709551616 < a) = true := by simp; omega
      have d2 : decide (0 < b) = false := by simp; omega
      clear n0
      go_enter Try.func37, Try.ntmps37
      go_wp2
      go_ret2
      exact ⟨by first | rfl | simp, rfl⟩
    · have hw := wrap_lo (a - b) h (by omega)
      have d1 : decide (a - b + 18446744073709551616 < a) = false := by simp; omega
      have d2 : decide (0 < b) = true := by simp; omega
      clear n0
      go_enter Try.func37, Try.ntmps37
      go_wp2
      go_ret2
      exact ⟨by first | rfl | simp, rfl⟩

set_option maxHeartbeats 1600000 in
theorem add_r (a b : Int) (w : World) (ha : InI a) (hb : InI b) : Calls Try.prog 36 #[.int .i64 a, .int .i64 b] w fun e w' => e = .returned (optV (addS a b)) ∧ w = w' := by
  obtain ⟨a1, a2⟩ := ha
  obtain ⟨b1, b2⟩ := hb
  by_cases hin : InI (a + b)
  · have e : addS a b = some (a + b) := by unfold addS; rw [if_pos hin]
    rw [e]
    obtain ⟨i1, i2⟩ := hin
    unfold optV
    rcases Int.lt_trichotomy b 0 with h | h | h
    · have n0 : (b == 0) = false := beq_eq_false_iff_ne.2 (by omega)
      have n1 : (b != 0) = true := bne_iff_ne.2 (by omega)
      go_enter Try.func36, Try.ntmps36
      go_wp2
      go_ret2
      exact ⟨by first | rfl | simp, rfl⟩
    · subst h
      go_enter Try.func36, Try.ntmps36
      go_wp2
      go_ret2
      exact ⟨by first | rfl | simp, rfl⟩
    · have n0 : (b == 0) = false := beq_eq_false_iff_ne.2 (by omega)
      have n1 : (b != 0) = true := bne_iff_ne.2 (by omega)
      go_enter Try.func36, Try.ntmps36
      go_wp2
      go_ret2
      exact ⟨by first | rfl | simp, rfl⟩
  · have e : addS a b = none := by unfold addS; rw [if_neg hin]
    rw [e]
    unfold InI at hin
    unfold optV
    have n0 : (b == 0) = false := beq_eq_false_iff_ne.2 (by omega)
    have n1 : (b != 0) = true := bne_iff_ne.2 (by omega)
    rcases (show 9223372036854775807 < a + b ∨ a + b < -9223372036854775808 from by omega) with h | h
    · have hw := wrap_hi (a + b) h (by omega)
      go_enter Try.func36, Try.ntmps36
      go_wp2
      go_ret2
      exact ⟨by first | rfl | simp, rfl⟩
    · have hw := wrap_lo (a + b) h (by omega)
      go_enter Try.func36, Try.ntmps36
      go_wp2
      go_ret2
      exact ⟨by first | rfl | simp, rfl⟩

set_option maxHeartbeats 1600000 in
theorem sub_r (a b : Int) (w : World) (ha : InI a) (hb : InI b) : Calls Try.prog 38 #[.int .i64 a, .int .i64 b] w fun e w' => e = .returned (optV (subS a b)) ∧ w = w' := by
  obtain ⟨a1, a2⟩ := ha
  obtain ⟨b1, b2⟩ := hb
  by_cases hin : InI (a - b)
  · have e : subS a b = some (a - b) := by unfold subS; rw [if_pos hin]
    rw [e]
    obtain ⟨i1, i2⟩ := hin
    unfold optV
    rcases Int.lt_trichotomy b 0 with h | h | h
    · have n0 : (b == 0) = false := beq_eq_false_iff_ne.2 (by omega)
      have n1 : (b != 0) = true := bne_iff_ne.2 (by omega)
      go_enter Try.func38, Try.ntmps38
      go_wp2
      go_ret2
      exact ⟨by first | rfl | simp, rfl⟩
    · subst h
      go_enter Try.func38, Try.ntmps38
      go_wp2
      go_ret2
      exact ⟨by first | rfl | simp, rfl⟩
    · have n0 : (b == 0) = false := beq_eq_false_iff_ne.2 (by omega)
      have n1 : (b != 0) = true := bne_iff_ne.2 (by omega)
      go_enter Try.func38, Try.ntmps38
      go_wp2
      go_ret2
      exact ⟨by first | rfl | simp, rfl⟩
  · have e : subS a b = none := by unfold subS; rw [if_neg hin]
    rw [e]
    unfold InI at hin
    unfold optV
    have n0 : (b == 0) = false := beq_eq_false_iff_ne.2 (by omega)
    have n1 : (b != 0) = true := bne_iff_ne.2 (by omega)
    rcases (show 9223372036854775807 < a - b ∨ a - b < -9223372036854775808 from by omega) with h | h
    · have hw := wrap_hi (a - b) h (by omega)
      go_enter Try.func38, Try.ntmps38
      go_wp2
      go_ret2
      exact ⟨by first | rfl | simp, rfl⟩
    · have hw := wrap_lo (a - b) h (by omega)
      go_enter Try.func38, Try.ntmps38
      go_wp2
      go_ret2
      exact ⟨by first | rfl | simp, rfl⟩
end Go.Proofs.Ytepkboilfgmkkaa
