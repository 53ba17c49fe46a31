/- A row's argument that is a slice of byte slices, in the words of the walks. -/
import Derived.Test.YtcmmgehghlaofaaRow
import Derived.Test.YtcmmgehghlaofaaPbAsk2
import Derived.Deep.Matrix
import Derived.Deep.Slices
import Derived.ChangeSame
namespace Go.Proofs.Ytcmmgehghlaofaa
open Go.RowKit Go.ChangeShapes Go.WideShapes Go.Deep
set_option linter.unusedVariables false

/-- A slice of byte slices that came in. -/
structure RowsIn (w : World) (A : Option Addr) (n c : Nat) (ts : List TA) : Prop where
  sl : Sl w A n c (ts.map TA.v)
  txt : ∀ t ∈ ts, Sl w t.A t.b.length t.c (nats .u8 t.b)
  b8 : ∀ t ∈ ts, ∀ x ∈ t.b, x < 256

theorem choose_list' {α : Type} (Q : Nat → α → Prop) (n : Nat) (h : ∀ i, i < n → ∃ a, Q i a) : ∃ l : List α, l.length = n ∧ ∀ i a, l[i]? = some a → Q i a := by
  induction n with
  | zero => exact ⟨[], rfl, fun i a h => by simp at h⟩
  | succ n ih =>
    obtain ⟨l, hl, hq⟩ := ih fun i hi => h i (by omega)
    obtain ⟨a, ha⟩ := h n (by omega)
    refine ⟨l ++ [a], by simp [hl], fun i x hx => ?_⟩
    rcases Nat.lt_or_ge i n with hi | hi
    · rw [List.getElem?_append_left (by omega)] at hx; exact hq i x hx
    · rw [List.getElem?_append_right (by omega)] at hx
      have : i - l.length = 0 := by
        rcases Nat.eq_zero_or_pos (i - l.length) with h | h
        · exact h
        · rw [List.getElem?_eq_none (by simp; omega)] at hx; cases hx
      have hin : i = n := by omega
      rw [this] at hx
      simp at hx
      subst hx hin
      exact ha

theorem rows_open {H : Type} {enc : TypeId × Value → H} {w : World} {base : Nat} {held : Bool} {fuel : Nat} {a0 : Option Addr} {len0 cap0 : Nat} {x : DataW H × List MemPlace}
    (h : DataW.trod enc Try.prog w base (fun _ => true) held fuel 68 (Value.slice a0 len0 cap0).cells.toList = some x) : ∃ ts : List TA, RowsIn w a0 len0 cap0 ts := by
  rcases open_int_rows Try.underlying68 Try.underlying22 Try.underlying5 (by kernel_rfl) (by kernel_rfl) h with ⟨hcs, _⟩ | ⟨a, len, cap, A, L, C, Z, hcs, hb, hl, hm, _, hr⟩
  · simp [Value.cells] at hcs
    obtain ⟨rfl, rfl, rfl⟩ := hcs
    exact ⟨[], Sl.none_ w, (fun _ h => by cases h), (fun _ h => by cases h)⟩
  · simp [Value.cells] at hcs
    obtain ⟨rfl, rfl, rfl⟩ := hcs
    have hpart : ∀ i, i < len0 → ∃ t : TA, w.cell? (a.add i) = some t.v ∧ Sl w t.A t.b.length t.c (nats .u8 t.b) ∧ ∀ x ∈ t.b, x < 256 := fun i hil => by
      obtain ⟨h1, h2, h3, h4, h5, h6, h7⟩ := hr i (by omega)
      have hz : (A i = none ∧ L i = 0 ∧ C i = 0 ∧ Z i = []) ∨ ∃ x, A i = some x ∧ L i ≤ C i ∧ C i ≤ maxLen ∧ (Z i).length = C i ∧ (∀ j, j < (Z i).length → w.cell? (x.add j) = some (.int .u8 ((Z i).getD j 0))) ∧ ∀ n ∈ Z i, (Lit.int .u8 n).wf = true := by
        cases hA : A i with
        | none =>
          have hc := h6 hA
          exact .inl ⟨rfl, by omega, hc, List.eq_nil_of_length_eq_zero (by omega)⟩
        | some x => exact .inr ⟨x, rfl, h2, h3, h4, fun j hj => (h7 x hA).2 j (by omega), h5⟩
      obtain ⟨l, s, b8⟩ := sl_u8 hz
      have hlen := s.len
      rw [nats_length] at hlen
      refine ⟨⟨A i, C i, l⟩, ?_, ?_, b8⟩
      · show _ = some (Value.slice (A i) l.length (C i))
        rw [hlen]; exact h1
      · show Sl w (A i) l.length (C i) (nats .u8 l)
        rw [hlen]; exact s
    obtain ⟨ts, hts, hq⟩ := choose_list' (fun i (t : TA) => w.cell? (a.add i) = some t.v ∧ Sl w t.A t.b.length t.c (nats .u8 t.b) ∧ ∀ x ∈ t.b, x < 256) len0 hpart
    have hmem : ∀ t ∈ ts, Sl w t.A t.b.length t.c (nats .u8 t.b) ∧ ∀ x ∈ t.b, x < 256 := fun t ht => by
      obtain ⟨i, hi, rfl⟩ := List.getElem_of_mem ht
      exact (hq i _ (List.getElem?_eq_getElem hi)).2
    refine ⟨ts, ⟨by simp [hts], hl, hm, (fun h => by cases h), fun ad had j u hu => ?_, ta_one ts⟩, fun t ht => (hmem t ht).1, fun t ht => (hmem t ht).2⟩
    injection had with had
    subst had
    rw [List.getElem?_map] at hu
    cases hj : ts[j]? with
    | none => rw [hj] at hu; cases hu
    | some t =>
      rw [hj] at hu
      simp only [Option.map_some, Option.some.injEq] at hu
      rw [(hq j t hj).1, hu]
end Go.Proofs.Ytcmmgehghlaofaa
