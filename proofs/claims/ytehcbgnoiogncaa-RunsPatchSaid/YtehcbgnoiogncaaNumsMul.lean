/- nums.Mul, Bits, size and the references' own: what they answer. (Printed by gen/numsmul.py.) -/
import Derived.Test.YtehcbgnoiogncaaNumsAr
import Derived.Test.YtehcbgnoiogncaaShelf
import Derived.Deep.DeepCutAuto
namespace Go.Proofs.Ytehcbgnoiogncaa
open Go.RowKit
set_option linter.unusedVariables false

/-- The product, where it is a number. -/
def mulS (a b : Int) : Option Int := if InI (a * b) then some (a * b) else none

theorem ret_u64' {k : IntKind} {a b : Int} (h : a = b) : Ending.returned (.int k a) = .returned (.int k b) := by rw [h]

theorem bits_p (u : Nat) (w : World) (hu : u < 18446744073709551616) : Calls Try.prog 43 #[.int .u64 (u : Int)] w fun e w' => e = .returned (.int .i64 (Lib.bitLen u : Int)) ∧ w' = w := by
  go_enter Try.func43, Try.ntmps43
  go_wp2_with fail
  refine (Try.bits_Len64 (u : Int) _ (by omega) (by omega)).mono ?_
  rintro e w1 ⟨rfl, rfl⟩
  go_wp2_with fail
  go_ret
  exact ⟨by first | rfl | simp, rfl⟩

theorem bla_zero (f : Nat) : Lib.bitLenAux f 0 = 0 := by cases f <;> rfl
theorem bla_le (f x : Nat) : Lib.bitLenAux f x ≤ f := by
  induction f generalizing x with
  | zero => exact Nat.le_refl _
  | succ f ih => unfold Lib.bitLenAux; split; omega; have := ih (x / 2); omega
theorem bla_lt (f x : Nat) (h : x < 2 ^ f) : Lib.bitLenAux f x = Lib.bitLenAux (f + 1) x := by
  induction f generalizing x with
  | zero => rw [show x = 0 from by simpa using h]; rfl
  | succ f ih =>
    rw [Lib.bitLenAux, Lib.bitLenAux]
    split
    · rfl
    · rw [← ih (x / 2) (by rw [Nat.pow_succ] at h; omega)]
theorem bitLen_half (x : Nat) (h0 : x ≠ 0) (h : x < 18446744073709551616) : Lib.bitLen x = 1 + Lib.bitLen (x / 2) := by
  unfold Lib.bitLen
  rw [show (64 : Nat) = 63 + 1 from rfl, Lib.bitLenAux, if_neg h0, bla_lt 63 (x / 2) (by omega)]

theorem natAbs_lt (a : Int) (ha : InI a) : a.natAbs < 18446744073709551616 := by obtain ⟨a1, a2⟩ := ha; omega
theorem mul_signs (a b : Int) : ((decide (a < 0) = decide (b < 0)) → a * b = ((a.natAbs * b.natAbs : Nat) : Int)) ∧ ((decide (a < 0) ≠ decide (b < 0)) → a * b = -((a.natAbs * b.natAbs : Nat) : Int)) := by
  constructor
  · intro h
    by_cases ha : a < 0
    · have hb : b < 0 := by simpa [ha] using h
      rw [Int.natCast_mul, show (a.natAbs : Int) = -a from by omega, show (b.natAbs : Int) = -b from by omega, Int.neg_mul_neg]
    · have hb : ¬ b < 0 := by simpa [ha] using h
      rw [Int.natCast_mul, show (a.natAbs : Int) = a from by omega, show (b.natAbs : Int) = b from by omega]
  · intro h
    by_cases ha : a < 0
    · have hb : ¬ b < 0 := by simpa [ha] using h
      rw [Int.natCast_mul, show (a.natAbs : Int) = -a from by omega, show (b.natAbs : Int) = b from by omega, Int.neg_mul, Int.neg_neg]
    · have hb : b < 0 := by simpa [ha] using h
      rw [Int.natCast_mul, show (a.natAbs : Int) = a from by omega, show (b.natAbs : Int) = -b from by omega, Int.mul_neg, Int.neg_neg]

end Go.Proofs.Ytehcbgnoiogncaa
