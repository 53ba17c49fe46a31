/- A row's argument that is a slice of structs: what it lays down; of Puts, in the words of the walks. -/
import Derived.Test.YtihclbiohljmlaaRow
import Derived.Test.YtihclbiohljmlaaPbPutsM
import Derived.Deep.Slices
import Derived.Deep.Fields
import Derived.ChangeSame
namespace Go.Proofs.Ytihclbiohljmlaa
open Go.RowKit Go.ChangeShapes Go.WideShapes Go.Deep
set_option linter.unusedVariables false

section
variable {H : Type} {enc : TypeId × Value → H} {P : Program} {w : World} {base : Nat} {spare : Nat → Bool} {held : Bool}
theorem open_slice_fields {t e : TypeId} {fs : Array Field} {fuel : Nat} {cs : List Value} {x : DataW H × List MemPlace} (ht : P.underlying t = some (.slice e)) (he : P.underlying e = some (.struct fs))
    (hone : oneCellFields P fs = true) (hC : P.cellsOf e = fs.size) (h : DataW.trod enc P w base spare held fuel t cs = some x) :
    cs = [.slice none 0 0] ∨
    ∃ (a : Addr) (len cap m : Nat), cs = [.slice (some a) len cap] ∧ len ≤ cap ∧ cap ≤ maxLen ∧ m = (if spare a.block then cap else len) ∧
      ∀ i, i < m → ∃ (n : Nat), ∀ (j : Nat) (f : Field), fs[j]? = some f → ∃ (v : Value) (y : DataW H × List MemPlace), w.cell? (a.add (i * fs.size + j)) = some v ∧ DataW.trod enc P w base spare held n f.type [v] = some y := by
  rcases open_slice ht h with h0 | ⟨a, len, cap, m, n, D, Pl, hcs, hb, hl, hm, hmm, hx, hi⟩
  · exact .inl h0.1
  · refine .inr ⟨a, len, cap, m, hcs, hl, hm, hmm, fun i him => ?_⟩
    obtain ⟨cs', hc, ht'⟩ := hi i him
    rw [hC] at hc
    obtain ⟨ys, n', hn', hy, hlen, hyl, hf⟩ := DataW.trod_struct he ht'
    obtain ⟨_, hcl, hat⟩ := World.cells?_some hc
    refine ⟨n', fun j f hj => ?_⟩
    obtain ⟨ho, hk⟩ := hone_of hone j f hj
    have hjl : j < fs.size := (Array.getElem?_eq_some_iff.1 hj).1
    have hcell := hat j hjl
    have hv : cs'[j]? = some (cs'[j]'(by omega)) := List.getElem?_eq_getElem (by omega)
    have h1 := hf j f hj
    rw [ho, hk] at h1
    have hone' : (cs'.drop j).take 1 = [cs'[j]'(by omega)] := by
      rw [List.drop_eq_getElem_cons (by omega)]
      rfl
    rw [hone'] at h1
    have hys : ys[j]? = some (ys[j]'(by omega)) := List.getElem?_eq_getElem (by omega)
    refine ⟨_, _, ?_, h1.trans hys⟩
    rw [← Go.Deep.add_add, hcell, hv]
end

structure PutIn.At (x : PutIn) (w : World) (b o : Nat) : Prop where
  c0 : w.cell? ⟨b, o, none⟩ = some (.int .i64 x.kind)
  c1 : w.cell? ⟨b, o + 1, none⟩ = some (.int .i64 x.num)
  c2 : w.cell? ⟨b, o + 2, none⟩ = some (.int .u64 (x.u : Int))
  c3 : w.cell? ⟨b, o + 3, none⟩ = some (.slice x.A x.b.length x.c)
  sl : Sl w x.A x.b.length x.c (nats .u8 x.b)
  inn : x.In

/-- A slice of Puts. -/
structure PutsIn (w : World) (A : Option Addr) (len cap : Nat) (ps : List PutIn) : Prop where
  hlen : ps.length = len
  le : len ≤ cap
  max : cap ≤ maxLen
  at_ : 0 < len → ∃ b off, A = some ⟨b, off, none⟩ ∧ b < w.heap.size ∧ ∀ i (x : PutIn), ps[i]? = some x → x.At w b (off + i * 4)

theorem choose_list {α : Type} (Q : Nat → α → Prop) (n : Nat) (h : ∀ i, i < n → ∃ a, Q i a) : ∃ l : List α, l.length = n ∧ ∀ i a, l[i]? = some a → Q i a := by
  induction n with
  | zero => exact ⟨[], rfl, fun i a h => by simp at h⟩
  | succ n ih =>
    obtain ⟨l, hl, hq⟩ := ih fun i hi => h i (by omega)
    obtain ⟨a, ha⟩ := h n (by omega)
    refine ⟨l ++ [a], by simp [hl], fun i x hx => ?_⟩
    rcases Nat.lt_or_ge i n with hi | hi
    · rw [List.getElem?_append_left (by omega)] at hx; exact hq i x hx
    · rw [List.getElem?_append_right (by omega)] at hx
      have : i - l.length = 0 := by
        rcases Nat.eq_zero_or_pos (i - l.length) with h | h
        · exact h
        · rw [List.getElem?_eq_none (by simp; omega)] at hx; cases hx
      have hin : i = n := by omega
      rw [this] at hx
      simp at hx
      subst hx hin
      exact ha

theorem puts_open {H : Type} {enc : TypeId × Value → H} {w : World} {base : Nat} {held : Bool} {fuel : Nat} {a0 : Option Addr} {len0 cap0 : Nat} {x : DataW H × List MemPlace}
    (h : DataW.trod enc Try.prog w base (fun _ => true) held fuel 50 (Value.slice a0 len0 cap0).cells.toList = some x) : ∃ ps : List PutIn, PutsIn w a0 len0 cap0 ps := by
  rcases open_slice_fields Try.underlying50 Try.underlying52 (by kernel_rfl) (by kernel_rfl) h with hcs | ⟨a, len, cap, m, hcs, hl, hm, hmm, hi⟩
  · simp [Value.cells] at hcs
    obtain ⟨rfl, rfl, rfl⟩ := hcs
    exact ⟨[], rfl, Nat.le_refl _, Nat.zero_le _, fun h => by omega⟩
  · simp [Value.cells] at hcs
    obtain ⟨rfl, rfl, rfl⟩ := hcs
    have hlm : len0 ≤ m := by rw [hmm]; split <;> omega
    obtain ⟨b, off, sp⟩ := a
    by_cases h0 : len0 = 0
    · subst h0
      exact ⟨[], rfl, hl, hm, fun h => by omega⟩
    · have hsp : sp = none := by
        obtain ⟨n, hf⟩ := hi 0 (by omega)
        obtain ⟨v, y, hc, _⟩ := hf 0 _ rfl
        have := World.cell?_spot hc
        simpa [Addr.add] using this
      subst hsp
      have hpart : ∀ i, i < len0 → ∃ p : PutIn, p.At w b (off + i * 4) := fun i hil => by
        obtain ⟨n, hf⟩ := hi i (by omega)
        obtain ⟨v0, y0, k0, t0⟩ := hf 0 _ rfl
        obtain ⟨v1, y1, k1, t1⟩ := hf 1 _ rfl
        obtain ⟨v2, y2, k2, t2⟩ := hf 2 _ rfl
        obtain ⟨v3, y3, k3, t3⟩ := hf 3 _ rfl
        rw [add_none] at k0 k1 k2 k3
        obtain ⟨n0, e0, _, f0⟩ := DataW.trod_int Try.underlying3 t0
        obtain ⟨n1, e1, _, f1⟩ := DataW.trod_int Try.underlying3 t1
        obtain ⟨n2, e2, _, f2⟩ := DataW.trod_int Try.underlying31 t2
        injection e0 with e0
        injection e1 with e1
        injection e2 with e2
        subst e0 e1 e2
        have g0 := wf_i64 f0
        have g1 := wf_i64 f1
        have g2 := wf_u64 f2
        have hsl : ∃ (A : Option Addr) (len cap : Nat) (zs : List Int), v3 = .slice A len cap ∧ ((A = none ∧ len = 0 ∧ cap = 0 ∧ zs = []) ∨
            ∃ x, A = some x ∧ len ≤ cap ∧ cap ≤ maxLen ∧ zs.length = cap ∧ (∀ i, i < zs.length → w.cell? (x.add i) = some (.int .u8 (zs.getD i 0))) ∧ ∀ n ∈ zs, (Lit.int .u8 n).wf = true) := by
          rcases open_ints Try.underlying22 Try.underlying5 (by kernel_rfl) t3 with ⟨hcs, _⟩ | ⟨x, l, c, zs, hcs, _, hl, hm, hz, _, hcell, hwz⟩
          · injection hcs with hcs
            exact ⟨none, 0, 0, [], hcs, .inl ⟨rfl, rfl, rfl, rfl⟩⟩
          · injection hcs with hcs
            exact ⟨some x, l, c, zs, hcs, .inr ⟨x, rfl, hl, hm, by simpa using hz, hcell, hwz⟩⟩
        obtain ⟨A3, len3, cap3, zs, rfl, hz⟩ := hsl
        obtain ⟨lit, s3, b3⟩ := sl_u8 hz
        have hlen := s3.len
        rw [nats_length] at hlen
        subst hlen
        have e : ((n2.toNat : Nat) : Int) = n2 := by omega
        refine ⟨⟨n0, n1, n2.toNat, A3, cap3, lit⟩, k0, k1, ?_, k3, s3, ⟨g0, g1, by simp only; omega, b3⟩⟩
        show w.cell? ⟨b, off + i * 4 + 2, none⟩ = some (.int .u64 ((n2.toNat : Nat) : Int))
        rw [e]
        exact k2
      obtain ⟨ps, hps, hat⟩ := choose_list (fun i p => PutIn.At p w b (off + i * 4)) len0 hpart
      refine ⟨ps, hps, hl, hm, fun _ => ⟨b, off, rfl, ?_, hat⟩⟩
      obtain ⟨p, hp⟩ := hpart 0 (by omega)
      exact World.block_lt_of_cell? w _ hp.c0
end Go.Proofs.Ytihclbiohljmlaa
