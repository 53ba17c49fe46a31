/- Texts put together; for regions that draw their order. -/
import Derived.Test.YtihclbiohljmlaaOps2
namespace Go.Proofs.Ytihclbiohljmlaa
open Go.RowKit
set_option linter.unusedVariables false
theorem strOf_append (a b : List Nat) : strOf a ++ strOf b = strOf (a ++ b) := by
  apply ByteArray.ext
  simp [strOf, strOfNums, ByteArray.data_append]
theorem strOf_size (a : List Nat) : (strOf a).size = a.length := by simp [strOf, strOfNums_size]
section
variable {P : Program} {o : Oper} {ρ : Operand → Value} {w : World} {K : Value → World → Prop}
theorem opk_add_string {t ty : TypeId} {x y : Operand} {a b : List Nat} (h : o.op = .binOp .add t x y ty) (hx : ρ x = .string (strOf a)) (hy : ρ y = .string (strOf b)) (hs : a.length + b.length ≤ 9223372036854775807) (hK : K (.string (strOf (a ++ b))) w) : OpK P o ρ w K := by
  refine opk_run (v := .string (strOf (a ++ b))) (w' := w) ?_ hK
  have h1 := run_string_add_sum (P := P) w (strOf a) (strOf b) (by rw [strOf_size, strOf_size]; exact hs)
  rw [strOf_append] at h1
  simp [execOp, h, hx, hy, go_sem, h1]
theorem opk_neq_string {t ty : TypeId} {x y : Operand} {s u : ByteArray} (h : o.op = .binOp .neq t x y ty) (hx : ρ x = .string s) (hy : ρ y = .string u) (hK : K (.bool (s.toList != u.toList)) w) : OpK P o ρ w K :=
  opk_run (by simp [execOp, h, hx, hy, go_sem, bne]) hK
theorem opk_neq_bool {t ty : TypeId} {x y : Operand} {m n : Bool} (ht : P.underlying t = some .bool) (h : o.op = .binOp .neq t x y ty) (hx : ρ x = .bool m) (hy : ρ y = .bool n) (hK : K (.bool (m != n)) w) : OpK P o ρ w K :=
  opk_run (by simp [execOp, h, hx, hy, go_sem, run_neq_bool w t m n ht, bne]) hK
end
end Go.Proofs.Ytihclbiohljmlaa
