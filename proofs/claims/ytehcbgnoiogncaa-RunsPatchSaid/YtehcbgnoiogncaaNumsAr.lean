/- nums.Add, Sub, Zig, Zag and the references' own: what they answer. -/
import Derived.Test.YtehcbgnoiogncaaNumsWd
namespace Go.Proofs.Ytehcbgnoiogncaa
open Go.RowKit
set_option linter.unusedVariables false

set_option maxHeartbeats 1600000 in
theorem add_p (a b : Int) (w : World) (ha : InI a) (hb : InI b) : Calls Try.prog 44 #[.int .i64 a, .int .i64 b] w fun e w' => e = .returned (optV (addS a b)) ∧ w = w' := by
  obtain ⟨a1, a2⟩ := ha
  obtain ⟨b1, b2⟩ := hb
  by_cases hin : InI (a + b)
  · have e : addS a b = some (a + b) := by unfold addS; rw [if_pos hin]
    rw [e]
    obtain ⟨i1, i2⟩ := hin
    unfold optV
    rcases Int.lt_trichotomy b 0 with h | h | h
    · have n0 : (b == 0) = false := beq_eq_false_iff_ne.2 (by omega)
      have n1 : (b != 0) = true := bne_iff_ne.2 (by omega)
      go_enter Try.func44, Try.ntmps44
      go_wp2
      go_ret2
      exact ⟨by first | rfl | simp, rfl⟩
    · subst h
      go_enter Try.func44, Try.ntmps44
      go_wp2
      go_ret2
      exact ⟨by first | rfl | simp, rfl⟩
    · have n0 : (b == 0) = false := beq_eq_false_iff_ne.2 (by omega)
      have n1 : (b != 0) = true := bne_iff_ne.2 (by omega)
      go_enter Try.func44, Try.ntmps44
      go_wp2
      go_ret2
      exact ⟨by first | rfl | simp, rfl⟩
  · have e : addS a b = none := by unfold addS; rw [if_neg hin]
    rw [e]
    unfold InI at hin
    unfold optV
    have n0 : (b == 0) = false := beq_eq_false_iff_ne.2 (by omega)
    have n1 : (b != 0) = true := bne_iff_ne.2 (by omega)
    rcases (show 9223372036854775807 < a + b ∨ a + b < -9223372036854775808 from by omega) with h | h
    · have hw := wrap_hi (a + b) h (by omega)
      have d1 : decide (a < a + b - 18446744073709551616) = false := by simp; omega
      have d2 : decide (0 < b) = true := by simp; omega
      clear n0
      go_enter Try.func44, Try.ntmps44
      go_wp2
      go_ret2
      exact ⟨by first | rfl | simp, rfl⟩
    · have hw := wrap_lo (a + b) h (by omega)
      have d1 : decide (a < a + b + 18446744073709551616) = true := by simp; omega
      have d2 : decide (0 < b) = false := by simp; omega
      clear n0
      go_enter Try.func44, Try.ntmps44
      go_wp2
      go_ret2
      exact ⟨by first | rfl | simp, rfl⟩

end Go.Proofs.Ytehcbgnoiogncaa
