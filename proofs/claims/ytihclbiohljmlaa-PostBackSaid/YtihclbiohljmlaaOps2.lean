/- An empty row of the call's own, and what is appended to it; for regions that draw their order. -/
import Derived.Test.YtihclbiohljmlaaOps
namespace Go.Proofs.Ytihclbiohljmlaa
open Go.RowKit
set_option linter.unusedVariables false

/-- An empty row of the call's own. -/
def Fact.emptyRow (e : TypeId) : Fact :=
  ⟨fun x w => ∃ g, x = .slice (some ⟨g, 0, none⟩) 0 0 ∧ w.heap[g]? = some (.cells #[] e (0, 0)), fun v w w' ⟨g, h1, h2⟩ hb => ⟨g, h1, by
    have hlt : g < w.heap.size := (Array.getElem?_eq_some_iff.1 h2).1
    rw [hb.block g hlt]; exact h2⟩⟩

section
variable {P : Program} {o : Oper} {ρ : Operand → Value} {w : World} {K : Value → World → Prop}
theorem opk_empty {t e : TypeId} {i : TypeInfo} {z : Value} (ht : P.underlying t = some (.slice e)) (hi : P.info? e = some i) (hz : i.zero = some z) (h : o.op = .buildSlice t 0 #[])
    (hK : K (.slice (some ⟨w.heap.size, 0, none⟩) 0 0) (w.alloc (.cells #[] e))) : OpK P o ρ w K :=
  opk_run (by simp [execOp, h, go_sem, run_underlying ht, sizeOf, typeInfo, hi]) hK

theorem run_append0 {t ty e : TypeId} {i : TypeInfo} {z : Value} {bytes : Nat} (ht : P.underlying t = some (.slice e)) (hi : P.info? e = some i) (hz : i.zero = some z) (hsize : i.size = 1) (hby : i.bytes = bytes)
    {g : Nat} {A : Option Addr} {n c : Nat} {xs : List Value} (hsl : Sl w A n c xs) (h63 : n ≤ maxLen) (hbytes : n * bytes ≤ 140737488355328) :
    ∃ A' c' w', (Builtin.append_ #[t, t] ty #[.slice (some ⟨g, 0, none⟩) 0 0, .slice A n c]).run P w = .ok (.slice A' n c') w' ∧ Below w.heap.size w w' ∧ Sl w' A' n c' xs := by
  subst hby
  rcases Nat.eq_zero_or_pos n with h0 | h0
  · subst h0
    have hx : xs = [] := List.eq_nil_of_length_eq_zero hsl.len
    subst hx
    refine ⟨some ⟨g, 0, none⟩, 0, w, ?_, Below.refl _ _, ⟨rfl, Nat.le_refl _, Nat.zero_le _, (fun h => by cases h), (fun ad _ j u hu => by simp at hu), (fun u hu => by cases hu)⟩⟩
    rcases A with _ | ad
    · simp [Builtin.append_, run_underlying ht, sizeOf, typeInfo, hi, Builtin.lenOf, Builtin.firstCells, storeCells]
    · simp [Builtin.append_, run_underlying ht, sizeOf, typeInfo, hi, Builtin.lenOf, Builtin.firstCells, storeCells, loadCells, loadCellsFrom]
  · obtain ⟨b, off, rfl, _, _⟩ := hsl.at_ h0
    have hr := run_append_grow (P := P) w t ty e i z ht hi hz ⟨g, 0, none⟩ 0 0 [] (by simp) (fun j v hv => by simp at hv) ⟨b, off, none⟩ n c xs (by rw [hsize, hsl.len]; omega) (hsl.cells _ rfl) (by omega) (by unfold maxLen at h63; omega)
      (growslice_fits (by omega) (by rw [Nat.zero_add]; exact hbytes))
    simp only [Nat.zero_add] at hr
    have hge := grownCap_ge w n 0 e
    refine ⟨_, _, _, hr, ⟨rfl, rfl, rfl, by simp, fun k hk => Below.heap_alloc w.drew _ k hk⟩, ⟨hsl.len, hge, grownCap_le_maxLen w n 0 e h63, (fun h => by cases h), (fun ad had j u hu => ?_), hsl.one⟩⟩
    injection had with had
    subst had
    rw [add_none, Nat.zero_add, cell_of_row _ w.heap.size j _ e (0, 0) (heap_alloc_new w.drew _)]
    have hj : j < xs.length := by
      rcases Nat.lt_or_ge j xs.length with h | h
      · exact h
      · rw [List.getElem?_eq_none h] at hu; cases hu
    simp only [List.append_toArray, List.nil_append]
    rw [Array.getElem?_append_left (by simpa using hj)]
    simpa using hu

/-- append onto an empty row of the call's own: a new row, whatever is appended. -/
theorem opk_append0 {t e : TypeId} {i : TypeInfo} {z : Value} {bytes : Nat} (ht : P.underlying t = some (.slice e)) (hi : P.info? e = some i) (hz : i.zero = some z) (hsize : i.size = 1) (hby : i.bytes = bytes)
    {s x : Operand} (h : o.op = .call { callee := .builtin .append, args := #[s, x], argTypes := #[t, t] })
    {g : Nat} (hs : ρ s = .slice (some ⟨g, 0, none⟩) 0 0) {A : Option Addr} {n c : Nat} {xs : List Value} (hx : ρ x = .slice A n c) (hsl : Sl w A n c xs)
    (h63 : n ≤ maxLen) (hbytes : n * bytes ≤ 140737488355328)
    (hK : ∀ v w', Below w.heap.size w w' → (∃ A' c', v = .slice A' n c' ∧ Sl w' A' n c' xs) → K v w') : OpK P o ρ w K := by
  obtain ⟨A', c', w', hr, h1, h2⟩ := run_append0 (P := P) (ty := o.type) (g := g) ht hi hz hsize hby hsl h63 hbytes
  refine opk_run (v := .slice A' n c') (w' := w') ?_ (hK _ _ h1 ⟨_, _, rfl, h2⟩)
  unfold execOp
  simp only [h, resolve, invoke, builtin, Sem.run_bind, Sem.run_pure, Result.andThen_ok, List.map_toArray, List.map_cons, List.map_nil, hs, hx, hr]
end
end Go.Proofs.Ytihclbiohljmlaa
