/- What a row's arguments are, in the words of the walks. -/
import Derived.Test.YtihclbiohljmlaaBase
namespace Go.Proofs.Ytihclbiohljmlaa
open Go.RowKit

/-- Numbers as values, with their sign. -/
def ints (k : IntKind) (l : List Int) : List Value := l.map (Value.int k)
theorem ints_one (k : IntKind) (l : List Int) : ∀ u ∈ ints k l, u.oneCell' = true := by
  intro u hu
  simp only [ints, List.mem_map] at hu
  obtain ⟨x, _, rfl⟩ := hu
  rfl

theorem sl_of_row {k : IntKind} {w : World} {a : Option Addr} {len cap : Nat} {zs : List Int}
    (h : (a = none ∧ len = 0 ∧ cap = 0 ∧ zs = []) ∨
      ∃ x, a = some x ∧ len ≤ cap ∧ cap ≤ maxLen ∧ zs.length = cap ∧ (∀ i, i < zs.length → w.cell? (x.add i) = some (.int k (zs.getD i 0))) ∧ ∀ n ∈ zs, (Lit.int k n).wf = true) :
    ∃ l : List Int, Sl w a len cap (ints k l) ∧ ∀ n ∈ l, (Lit.int k n).wf = true := by
  rcases h with ⟨rfl, rfl, rfl, rfl⟩ | ⟨x, rfl, h1, h2, h3, h4, h5⟩
  · exact ⟨[], Sl.none_ w, fun n hn => by cases hn⟩
  · refine ⟨zs.take len, ⟨by simp [ints]; omega, h1, h2, (fun h => by cases h), (fun ad had j u hu => ?_), ints_one _ _⟩, fun n hn => h5 n (List.mem_of_mem_take hn)⟩
    injection had with had
    subst had
    rw [ints, List.getElem?_map, List.getElem?_take] at hu
    split at hu
    · rename_i hj
      rw [List.getElem?_eq_getElem (by omega)] at hu
      simp only [Option.map_some, Option.some.injEq] at hu
      rw [h4 j (by omega), ← hu]
      simp [show j < zs.length from by omega]
    · simp at hu

theorem nat_list (k : IntKind) (hi : Nat) (l : List Int) (h : ∀ n ∈ l, 0 ≤ n ∧ n < hi) : ∃ m : List Nat, ints k l = nats k m ∧ ∀ x ∈ m, x < hi := by
  refine ⟨l.map Int.toNat, ?_, ?_⟩
  · simp only [ints, nats, List.map_map]
    refine List.map_congr_left fun n hn => ?_
    have := h n hn
    simp only [Function.comp]
    congr 1
    omega
  · intro x hx
    simp only [List.mem_map] at hx
    obtain ⟨n, hn, rfl⟩ := hx
    have := h n hn
    omega

theorem wf_u8 {n : Int} (h : (Lit.int .u8 n).wf = true) : 0 ≤ n ∧ n < ((256 : Nat) : Int) := by
  simp [Lit.wf, IntKind.min, IntKind.max, IntKind.signed, IntKind.bits] at h
  omega
theorem wf_u16 {n : Int} (h : (Lit.int .u16 n).wf = true) : 0 ≤ n ∧ n ≤ 65535 := by
  simp [Lit.wf, IntKind.min, IntKind.max, IntKind.signed, IntKind.bits] at h
  omega
theorem wf_u64 {n : Int} (h : (Lit.int .u64 n).wf = true) : 0 ≤ n ∧ n < ((18446744073709551616 : Nat) : Int) := by
  simp [Lit.wf, IntKind.min, IntKind.max, IntKind.signed, IntKind.bits] at h
  omega
theorem wf_i64 {n : Int} (h : (Lit.int .i64 n).wf = true) : -9223372036854775808 ≤ n ∧ n ≤ 9223372036854775807 := by
  simp [Lit.wf, IntKind.min, IntKind.max, IntKind.signed, IntKind.bits] at h
  omega

section
variable {w : World} {a : Option Addr} {len cap : Nat} {zs : List Int}
theorem sl_u8 (h : (a = none ∧ len = 0 ∧ cap = 0 ∧ zs = []) ∨
      ∃ x, a = some x ∧ len ≤ cap ∧ cap ≤ maxLen ∧ zs.length = cap ∧ (∀ i, i < zs.length → w.cell? (x.add i) = some (.int .u8 (zs.getD i 0))) ∧ ∀ n ∈ zs, (Lit.int .u8 n).wf = true) :
    ∃ l : List Nat, Sl w a len cap (nats .u8 l) ∧ ∀ x ∈ l, x < 256 := by
  obtain ⟨l, h1, h2⟩ := sl_of_row h
  obtain ⟨m, h3, h4⟩ := nat_list .u8 256 l fun n hn => wf_u8 (h2 n hn)
  exact ⟨m, by rw [← h3]; exact h1, h4⟩
theorem sl_u64 (h : (a = none ∧ len = 0 ∧ cap = 0 ∧ zs = []) ∨
      ∃ x, a = some x ∧ len ≤ cap ∧ cap ≤ maxLen ∧ zs.length = cap ∧ (∀ i, i < zs.length → w.cell? (x.add i) = some (.int .u64 (zs.getD i 0))) ∧ ∀ n ∈ zs, (Lit.int .u64 n).wf = true) :
    ∃ l : List Nat, Sl w a len cap (nats .u64 l) ∧ ∀ x ∈ l, x < 18446744073709551616 := by
  obtain ⟨l, h1, h2⟩ := sl_of_row h
  obtain ⟨m, h3, h4⟩ := nat_list .u64 18446744073709551616 l fun n hn => wf_u64 (h2 n hn)
  exact ⟨m, by rw [← h3]; exact h1, h4⟩
theorem sl_i64 (h : (a = none ∧ len = 0 ∧ cap = 0 ∧ zs = []) ∨
      ∃ x, a = some x ∧ len ≤ cap ∧ cap ≤ maxLen ∧ zs.length = cap ∧ (∀ i, i < zs.length → w.cell? (x.add i) = some (.int .i64 (zs.getD i 0))) ∧ ∀ n ∈ zs, (Lit.int .i64 n).wf = true) :
    ∃ l : List Int, Sl w a len cap (ints .i64 l) ∧ ∀ n ∈ l, -9223372036854775808 ≤ n ∧ n ≤ 9223372036854775807 := by
  obtain ⟨l, h1, h2⟩ := sl_of_row h
  exact ⟨l, h1, fun n hn => wf_i64 (h2 n hn)⟩
end
end Go.Proofs.Ytihclbiohljmlaa
