/- A row's argument that is a slice of bools, in the words of the walks. -/
import Derived.Test.YtcmmgehghlaofaaRow
import Derived.Deep.Slices
namespace Go.Proofs.Ytcmmgehghlaofaa
open Go.RowKit
set_option linter.unusedVariables false

def bools (l : List Bool) : List Value := l.map Value.bool
theorem bools_one (l : List Bool) : ∀ u ∈ bools l, u.oneCell' = true := by
  intro u hu
  simp only [bools, List.mem_map] at hu
  obtain ⟨x, _, rfl⟩ := hu
  rfl
theorem bools_length (l : List Bool) : (bools l).length = l.length := by simp [bools]
theorem bools_getD (l : List Bool) (j : Nat) (h : j < l.length) : (bools l).getD j undef = .bool (l.getD j false) := by simp [bools, h]

theorem sl_bools {H : Type} {enc : TypeId × Value → H} {P : Program} {w : World} {base : Nat} {spare : Nat → Bool} {held : Bool} {t e : TypeId} {fuel : Nat} {a0 : Option Addr} {len0 cap0 : Nat} {x : DataW H × List MemPlace}
    (ht : P.underlying t = some (.slice e)) (he : P.underlying e = some .bool) (hc : P.cellsOf e = 1) (h : DataW.trod enc P w base spare held fuel t (Value.slice a0 len0 cap0).cells.toList = some x) :
    ∃ l : List Bool, Sl w a0 len0 cap0 (bools l) := by
  rcases Deep.open_slice1 ht hc h with ⟨hcs, _⟩ | ⟨a, len, cap, m, n, V, D, Pl, hcs, _, hl, hm, hmm, _, hx⟩
  · simp [Value.cells] at hcs
    obtain ⟨rfl, rfl, rfl⟩ := hcs
    exact ⟨[], Sl.none_ w⟩
  · simp [Value.cells] at hcs
    obtain ⟨rfl, rfl, rfl⟩ := hcs
    have hlm : len0 ≤ m := by rw [hmm]; split <;> omega
    have hb : ∀ i, i < len0 → ∃ b, V i = .bool b := fun i hi => by
      obtain ⟨b, h1, _⟩ := DataW.trod_bool he (hx i (by omega)).2
      exact ⟨b, by simpa using h1⟩
    refine ⟨(List.range len0).map fun i => match V i with | .bool b => b | _ => false, ⟨by simp [bools], hl, hm, (fun h => by cases h), (fun ad had j u hu => ?_), bools_one _⟩⟩
    injection had with had
    subst had
    have hj : j < len0 := by
      rcases Nat.lt_or_ge j len0 with h | h
      · exact h
      · rw [List.getElem?_eq_none (by simpa [bools] using h)] at hu; cases hu
    obtain ⟨b, hbj⟩ := hb j hj
    rw [(hx j (by omega)).1, ← hu]
    simp [bools, hj, hbj]
end Go.Proofs.Ytcmmgehghlaofaa
