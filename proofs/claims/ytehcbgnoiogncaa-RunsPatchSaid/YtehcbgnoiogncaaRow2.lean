/- Rows of sixteen bits, of small signed numbers: what a slice parameter lays down. -/
import Derived.Test.YtehcbgnoiogncaaRow
namespace Go.Proofs.Ytehcbgnoiogncaa
open Go.RowKit

theorem wf_u32 {n : Int} (h : (Lit.int .u32 n).wf = true) : 0 ≤ n ∧ n ≤ 4294967295 := by
  simp [Lit.wf, IntKind.min, IntKind.max, IntKind.signed, IntKind.bits] at h
  omega
theorem wf_i8 {n : Int} (h : (Lit.int .i8 n).wf = true) : -128 ≤ n ∧ n ≤ 127 := by
  simp [Lit.wf, IntKind.min, IntKind.max, IntKind.signed, IntKind.bits] at h
  omega
section
variable {w : World} {a : Option Addr} {len cap : Nat} {zs : List Int}
theorem sl_u16 (h : (a = none ∧ len = 0 ∧ cap = 0 ∧ zs = []) ∨
      ∃ x, a = some x ∧ len ≤ cap ∧ cap ≤ maxLen ∧ zs.length = cap ∧ (∀ i, i < zs.length → w.cell? (x.add i) = some (.int .u16 (zs.getD i 0))) ∧ ∀ n ∈ zs, (Lit.int .u16 n).wf = true) :
    ∃ l : List Nat, Sl w a len cap (nats .u16 l) ∧ ∀ x ∈ l, x < 65536 := by
  obtain ⟨l, h1, h2⟩ := sl_of_row h
  obtain ⟨m, h3, h4⟩ := nat_list .u16 65536 l fun n hn => ⟨(wf_u16 (h2 n hn)).1, by have := (wf_u16 (h2 n hn)).2; omega⟩
  exact ⟨m, by rw [← h3]; exact h1, h4⟩
theorem sl_i8 (h : (a = none ∧ len = 0 ∧ cap = 0 ∧ zs = []) ∨
      ∃ x, a = some x ∧ len ≤ cap ∧ cap ≤ maxLen ∧ zs.length = cap ∧ (∀ i, i < zs.length → w.cell? (x.add i) = some (.int .i8 (zs.getD i 0))) ∧ ∀ n ∈ zs, (Lit.int .i8 n).wf = true) :
    ∃ l : List Int, Sl w a len cap (ints .i8 l) ∧ ∀ n ∈ l, -128 ≤ n ∧ n ≤ 127 := by
  obtain ⟨l, h1, h2⟩ := sl_of_row h
  exact ⟨l, h1, fun n hn => wf_i8 (h2 n hn)⟩
end
end Go.Proofs.Ytehcbgnoiogncaa
