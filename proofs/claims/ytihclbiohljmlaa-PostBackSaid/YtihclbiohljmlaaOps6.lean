/- Indexes and loads as operations of a region that draws its order. -/
import Derived.Test.YtihclbiohljmlaaOps5
namespace Go.Proofs.Ytihclbiohljmlaa
open Go.RowKit
set_option linter.unusedVariables false
section
variable {P : Program} {o : Oper} {ρ : Operand → Value} {w : World} {K : Value → World → Prop}
theorem opk_idx {t e : TypeId} {i : TypeInfo} {size j n c : Nat} {x y : Operand} {ad : Addr} (ht : P.underlying t = some (.slice e)) (hi : P.info? e = some i) (hs : i.size = size) (h : o.op = .indexAddr t x y) (hx : ρ x = .slice (some ad) n c) (hy : ρ y = .int .i64 (j : Int)) (hj : j < n)
    (hK : K (.pointer (some (ad.add (j * size)))) w) : OpK P o ρ w K := by
  refine opk_run (v := .pointer (some (ad.add (j * size)))) ?_ hK
  simp [execOp, h, hx, hy, Instr.indexAt, asIntOf, run_underlying ht, sizeOf, typeInfo, hi, hs, hj]
end
theorem opk_load_u64 {o : Oper} {ρ : Operand → Value} {w : World} {K : Value → World → Prop} {x : Operand} {ad : Addr} {v : Value} (h : o.op = .load 31 x) (hx : ρ x = .pointer (some ad)) (hc : w.cell? ad = some v) (hK : K v w) : OpK Try.prog o ρ w K :=
  opk_run (by simp [execOp, h, hx, hc, go_sem]) hK
theorem opk_load_int {o : Oper} {ρ : Operand → Value} {w : World} {K : Value → World → Prop} {x : Operand} {ad : Addr} {v : Value} (h : o.op = .load 3 x) (hx : ρ x = .pointer (some ad)) (hc : w.cell? ad = some v) (hK : K v w) : OpK Try.prog o ρ w K :=
  opk_run (by simp [execOp, h, hx, hc, go_sem]) hK
end Go.Proofs.Ytihclbiohljmlaa
