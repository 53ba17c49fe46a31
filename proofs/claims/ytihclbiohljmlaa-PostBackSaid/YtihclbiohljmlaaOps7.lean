/- Fields of structs, loads and comparisons as operations of a region that draws its order. -/
import Derived.Test.YtihclbiohljmlaaOps6
namespace Go.Proofs.Ytihclbiohljmlaa
open Go.RowKit
set_option linter.unusedVariables false
section
variable {P : Program} {o : Oper} {ρ : Operand → Value} {w : World} {K : Value → World → Prop}
theorem opk_geq_i64 {t ty : TypeId} {x y : Operand} {m n : Int} (h : o.op = .binOp .geq t x y ty) (hx : ρ x = .int .i64 m) (hy : ρ y = .int .i64 n) (hK : K (.bool (decide (n ≤ m))) w) : OpK P o ρ w K :=
  opk_run (by simp [execOp, h, hx, hy, go_sem]) hK
theorem opk_lss_i64 {t ty : TypeId} {x y : Operand} {m n : Int} (h : o.op = .binOp .lss t x y ty) (hx : ρ x = .int .i64 m) (hy : ρ y = .int .i64 n) (hK : K (.bool (decide (m < n))) w) : OpK P o ρ w K :=
  opk_run (by simp [execOp, h, hx, hy, go_sem]) hK
end
section
variable {o : Oper} {ρ : Operand → Value} {w : World} {K : Value → World → Prop}
theorem opk_put_0 {x : Operand} {B q : Nat} (h : o.op = .fieldAddr 52 x 0) (hx : ρ x = .pointer (some ⟨B, q, none⟩)) (hK : K (.pointer (some ⟨B, q + 0, none⟩)) w) : OpK Try.prog o ρ w K :=
  opk_run (by simp [execOp, h, hx, go_sem]; try rfl) hK
theorem opk_put_1 {x : Operand} {B q : Nat} (h : o.op = .fieldAddr 52 x 1) (hx : ρ x = .pointer (some ⟨B, q, none⟩)) (hK : K (.pointer (some ⟨B, q + 1, none⟩)) w) : OpK Try.prog o ρ w K :=
  opk_run (by simp [execOp, h, hx, go_sem]; try rfl) hK
theorem opk_put_2 {x : Operand} {B q : Nat} (h : o.op = .fieldAddr 52 x 2) (hx : ρ x = .pointer (some ⟨B, q, none⟩)) (hK : K (.pointer (some ⟨B, q + 2, none⟩)) w) : OpK Try.prog o ρ w K :=
  opk_run (by simp [execOp, h, hx, go_sem]; try rfl) hK
theorem opk_put_3 {x : Operand} {B q : Nat} (h : o.op = .fieldAddr 52 x 3) (hx : ρ x = .pointer (some ⟨B, q, none⟩)) (hK : K (.pointer (some ⟨B, q + 3, none⟩)) w) : OpK Try.prog o ρ w K :=
  opk_run (by simp [execOp, h, hx, go_sem]; try rfl) hK
theorem opk_pbf_0 {x : Operand} {B q : Nat} (h : o.op = .fieldAddr 57 x 0) (hx : ρ x = .pointer (some ⟨B, q, none⟩)) (hK : K (.pointer (some ⟨B, q + 0, none⟩)) w) : OpK Try.prog o ρ w K :=
  opk_run (by simp [execOp, h, hx, go_sem]; try rfl) hK
theorem opk_pbf_1 {x : Operand} {B q : Nat} (h : o.op = .fieldAddr 57 x 1) (hx : ρ x = .pointer (some ⟨B, q, none⟩)) (hK : K (.pointer (some ⟨B, q + 1, none⟩)) w) : OpK Try.prog o ρ w K :=
  opk_run (by simp [execOp, h, hx, go_sem]; try rfl) hK
theorem opk_pbf_2 {x : Operand} {B q : Nat} (h : o.op = .fieldAddr 57 x 2) (hx : ρ x = .pointer (some ⟨B, q, none⟩)) (hK : K (.pointer (some ⟨B, q + 2, none⟩)) w) : OpK Try.prog o ρ w K :=
  opk_run (by simp [execOp, h, hx, go_sem]; try rfl) hK
theorem opk_pbf_3 {x : Operand} {B q : Nat} (h : o.op = .fieldAddr 57 x 3) (hx : ρ x = .pointer (some ⟨B, q, none⟩)) (hK : K (.pointer (some ⟨B, q + 3, none⟩)) w) : OpK Try.prog o ρ w K :=
  opk_run (by simp [execOp, h, hx, go_sem]; try rfl) hK
theorem opk_pbf_4 {x : Operand} {B q : Nat} (h : o.op = .fieldAddr 57 x 4) (hx : ρ x = .pointer (some ⟨B, q, none⟩)) (hK : K (.pointer (some ⟨B, q + 4, none⟩)) w) : OpK Try.prog o ρ w K :=
  opk_run (by simp [execOp, h, hx, go_sem]; try rfl) hK
theorem opk_rff_0 {x : Operand} {B q : Nat} (h : o.op = .fieldAddr 84 x 0) (hx : ρ x = .pointer (some ⟨B, q, none⟩)) (hK : K (.pointer (some ⟨B, q + 0, none⟩)) w) : OpK Try.prog o ρ w K :=
  opk_run (by simp [execOp, h, hx, go_sem]; try rfl) hK
theorem opk_rff_1 {x : Operand} {B q : Nat} (h : o.op = .fieldAddr 84 x 1) (hx : ρ x = .pointer (some ⟨B, q, none⟩)) (hK : K (.pointer (some ⟨B, q + 1, none⟩)) w) : OpK Try.prog o ρ w K :=
  opk_run (by simp [execOp, h, hx, go_sem]; try rfl) hK
theorem opk_rff_2 {x : Operand} {B q : Nat} (h : o.op = .fieldAddr 84 x 2) (hx : ρ x = .pointer (some ⟨B, q, none⟩)) (hK : K (.pointer (some ⟨B, q + 2, none⟩)) w) : OpK Try.prog o ρ w K :=
  opk_run (by simp [execOp, h, hx, go_sem]; try rfl) hK
theorem opk_rff_3 {x : Operand} {B q : Nat} (h : o.op = .fieldAddr 84 x 3) (hx : ρ x = .pointer (some ⟨B, q, none⟩)) (hK : K (.pointer (some ⟨B, q + 3, none⟩)) w) : OpK Try.prog o ρ w K :=
  opk_run (by simp [execOp, h, hx, go_sem]; try rfl) hK
theorem opk_rff_4 {x : Operand} {B q : Nat} (h : o.op = .fieldAddr 84 x 4) (hx : ρ x = .pointer (some ⟨B, q, none⟩)) (hK : K (.pointer (some ⟨B, q + 4, none⟩)) w) : OpK Try.prog o ρ w K :=
  opk_run (by simp [execOp, h, hx, go_sem]; try rfl) hK
end
theorem Try.info52 : (Try.prog.info? 52).map (fun i => (i.zero, i.size, i.bytes)) = some (some (.agg #[.int .i64 0, .int .i64 0, .int .u64 0, .slice none 0 0]), 4, 48) := by kernel_rfl
end Go.Proofs.Ytihclbiohljmlaa
