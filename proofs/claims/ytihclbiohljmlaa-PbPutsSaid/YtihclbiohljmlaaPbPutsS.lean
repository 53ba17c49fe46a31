/- PbPuts: what holds at the head of a round, and what a round leaves. -/
import Derived.Test.YtihclbiohljmlaaPutRow
import Derived.Test.YtihclbiohljmlaaPbKnown
import Derived.Test.YtihclbiohljmlaaOps7
namespace Go.Proofs.Ytihclbiohljmlaa
open Go.RowKit
set_option linter.unusedVariables false

def PutIn.cells (x : PutIn) : List Value := [.int .i64 x.kind, .int .i64 x.num, .int .u64 (x.u : Int), .slice x.A x.b.length x.c]
theorem PutIn.one (x : PutIn) : ∀ u ∈ x.cells, u.oneCell' = true := by
  intro u hu
  simp only [PutIn.cells, List.mem_cons, List.not_mem_nil, or_false] at hu
  rcases hu with rfl | rfl | rfl | rfl <;> rfl
theorem puts_one (l : List PutIn) : ∀ u ∈ l.flatMap PutIn.cells, u.oneCell' = true := by
  intro u hu
  obtain ⟨p, _, hp⟩ := List.mem_flatMap.1 hu
  exact p.one u hp
theorem own_apart {w : World} {b1 b2 e1 e2 s1 s2 n1 n2 : Nat} {v1 v2 : Value} {xs1 xs2 : List Value} (h1 : w.ownsRow b1 e1 s1 v1 n1 xs1) (h2 : w.ownsRow b2 e2 s2 v2 n2 xs2) (hne : e1 ≠ e2) : v1.ownBlock = none ∨ v1.ownBlock ≠ v2.ownBlock := by
  rcases h1.2 with ⟨rfl, _⟩ | ⟨g, cap, cur, rfl, _, hg, _⟩
  · exact .inl rfl
  · refine .inr ?_
    rcases h2.2 with ⟨rfl, _⟩ | ⟨g', cap', cur', rfl, _, hg', _⟩
    · simp [Value.ownBlock]
    · intro e
      simp only [Value.ownBlock, Option.some.injEq] at e
      rw [← e, hg] at hg'
      injection hg' with hg'
      injection hg' with _ h
      exact hne h

structure PuSt (w : World) (ps : List PutIn) (i mb cb : Nat) (Ab : Option Addr) (cv wv : Value) (k : Nat) (wr : World) : Prop where
  b : Sl wr Ab mb cb (nats .u8 (putsB (putsOf (ps.take i))))
  c : wr.ownsRow w.heap.size 5 1 cv mb (nats .u8 (putsB (putsOf (ps.take i))))
  want : wr.ownsRow w.heap.size 52 4 wv k (((ps.take i).filter mayP).flatMap PutIn.cells)
  hk : ((ps.take i).filter mayP).length = k
  bel : Below w.heap.size w wr

theorem PuSt.skip {w wr w' : World} {ps : List PutIn} {i mb cb m' c' k : Nat} {Ab A' : Option Addr} {cv wv v' : Value} {x : PutIn} (h : PuSt w ps i mb cb Ab cv wv k wr) (htk : ps.take (i + 1) = ps.take i ++ [x]) (hno : ¬ mayF x.num)
    (hb : Sl w' A' m' c' (nats .u8 (putsB (putsOf (ps.take i)) ++ x.bytes))) (hc : w'.ownsRow w.heap.size 5 1 v' m' (nats .u8 (putsB (putsOf (ps.take i)) ++ x.bytes))) (hw : w'.ownsRow w.heap.size 52 4 wv k (((ps.take i).filter mayP).flatMap PutIn.cells)) (hbel : Below w.heap.size w w') :
    PuSt w ps (i + 1) m' c' A' v' wv k w' := by
  have hf : (ps.take (i + 1)).filter mayP = (ps.take i).filter mayP := by
    rw [htk, List.filter_append, List.filter_cons_of_neg (by simpa [mayP] using hno)]
    simp
  exact ⟨by rw [htk, puts_snoc]; exact hb, by rw [htk, puts_snoc]; exact hc, by rw [hf]; exact hw, by rw [hf]; exact h.hk, hbel⟩
theorem PuSt.step {w wr w' : World} {ps : List PutIn} {i mb cb m' c' k : Nat} {Ab A' : Option Addr} {cv wv v' wv' : Value} {x : PutIn} (h : PuSt w ps i mb cb Ab cv wv k wr) (htk : ps.take (i + 1) = ps.take i ++ [x]) (hyes : mayF x.num)
    (hb : Sl w' A' m' c' (nats .u8 (putsB (putsOf (ps.take i)) ++ x.bytes))) (hc : w'.ownsRow w.heap.size 5 1 v' m' (nats .u8 (putsB (putsOf (ps.take i)) ++ x.bytes))) (hw : w'.ownsRow w.heap.size 52 4 wv' (k + 1) (((ps.take i).filter mayP).flatMap PutIn.cells ++ x.cells)) (hbel : Below w.heap.size w w') :
    PuSt w ps (i + 1) m' c' A' v' wv' (k + 1) w' := by
  have hf : (ps.take (i + 1)).filter mayP = (ps.take i).filter mayP ++ [x] := by
    rw [htk, List.filter_append, List.filter_cons_of_pos (by simpa [mayP] using hyes)]
    simp
  exact ⟨by rw [htk, puts_snoc]; exact hb, by rw [htk, puts_snoc]; exact hc, by rw [hf, List.flatMap_append]; simpa using hw, by rw [hf]; simp [h.hk], hbel⟩

/-- Behind both puts of a round. -/
structure PuMid (w wr : World) (M : List Nat) (W : List Value) (bx : Obj) (A' : Option Addr) (m' c' : Nat) (v' wv : Value) (k : Nat) (w3 : World) : Prop where
  b : Sl w3 A' m' c' (nats .u8 M)
  typ : Typ w3 A' 5
  c : w3.ownsRow w.heap.size 5 1 v' m' (nats .u8 M)
  want : w3.ownsRow w.heap.size 52 4 wv k W
  box : w3.heap[wr.heap.size]? = some bx
  bel : Below w.heap.size w w3
theorem PuSt.mid {w wr w2 w3 : World} {ps : List PutIn} {i mb cb m' c' k m2 : Nat} {Ab A' : Option Addr} {cv wv v' : Value} {M : List Nat} {cs : Array Value} {fr : Nat × Nat} (h : PuSt w ps i mb cb Ab cv wv k wr)
    (h1 : Below (wr.alloc (.cells cs 52 fr)).heap.size (wr.alloc (.cells cs 52 fr)) w2) (hb : Sl w2 A' m' c' (nats .u8 M)) (hF : Fr 5 (wr.alloc (.cells cs 52 fr)) w2 A')
    (h2 : Below w.heap.size w2 w3) (hG : Gr w2 w3 cv v') (hc' : w3.ownsRow w.heap.size 5 1 v' m2 (nats .u8 M)) :
    PuMid w wr M (((ps.take i).filter mayP).flatMap PutIn.cells) (.cells cs 52 fr) A' m' c' v' wv k w3 := by
  have hlt : ∀ b, cv.ownBlock = some b → b < wr.heap.size := fun b hb => (h.c.lt b hb).2
  have hc2 := own_below (h.c.alloc (.cells cs 52 fr)) h1
  have hw2 := own_below (h.want.alloc (.cells cs 52 fr)) h1
  have hne : ∀ ad, A' = some ad → some ad.block ≠ cv.ownBlock := fun ad hA e => by
    have h1 := hF.lo ad hA
    have h2 := hlt ad.block e.symm
    simp at h1
    omega
  have hbx2 : w2.heap[wr.heap.size]? = some (.cells cs 52 fr) := (h1.block _ (by simp)).trans (heap_alloc_new wr _)
  have hm : m2 = m' := by
    have e1 := hb.len
    have e2 := hc'.1
    rw [nats_length] at e1 e2
    omega
  subst hm
  refine ⟨hG.sl hb hne, ?_, hc', hw2.kept hG.grown (own_apart hw2 hc2 (by decide)), ?_, ?_⟩
  · intro ad hA
    obtain ⟨cs', fr', hh⟩ := hF.typ ad hA
    exact ⟨cs', fr', (hG.grown.block _ (Array.getElem?_eq_some_iff.1 hh).1 (hne ad hA)).trans hh⟩
  · refine (hG.grown.block _ (Array.getElem?_eq_some_iff.1 hbx2).1 (fun e => ?_)).trans hbx2
    have := hlt _ e.symm
    omega
  · exact ((h.bel.alloc h.bel.size _).trans (h1.mono (by simp; have := h.bel.size; omega))).trans h2
/-- Behind the append onto what is wanted. -/
theorem PuMid.grown {w wr w3 w4 : World} {M : List Nat} {W W' : List Value} {bx o : Obj} {A' : Option Addr} {m' c' k k' : Nat} {v' wv wv' : Value} (h : PuMid w wr M W bx A' m' c' v' wv k w3)
    (hg : (w3.alloc o).grownBy w4 wv.ownBlock) (hw : w4.ownsRow w.heap.size 52 4 wv' k' W') : Sl w4 A' m' c' (nats .u8 M) ∧ w4.ownsRow w.heap.size 5 1 v' m' (nats .u8 M) ∧ Below w.heap.size w w4 := by
  have hml : M.length = m' := by have := h.b.len; rw [nats_length] at this; exact this
  have ht : Txt w3 A' c' M := ⟨by rw [hml]; exact h.b, h.typ⟩
  have h4 := (ht.keep (below_new w3 o)).grown (h.want.alloc o) (by decide) hg
  refine ⟨by have := h4.sl; rw [hml] at this; exact this, (h.c.alloc o).kept hg (own_apart (h.c.alloc o) (h.want.alloc o) (by decide)), ?_⟩
  exact (h.bel.alloc h.bel.size _).trans (below_of_grown (h.want.alloc o) hg (by have := h.bel.size; simp; omega))
theorem flat4 (l : List PutIn) (i j : Nat) (x : PutIn) (hi : l[i]? = some x) (hj : j < 4) : (l.flatMap PutIn.cells)[i * 4 + j]? = x.cells[j]? := by
  induction l generalizing i with
  | nil => simp at hi
  | cons p l ih =>
    have h4 : p.cells.length = 4 := rfl
    rw [List.flatMap_cons]
    cases i with
    | zero =>
      simp only [List.getElem?_cons_zero, Option.some.injEq] at hi
      subst hi
      rw [List.getElem?_append_left (by omega)]; simp
    | succ i =>
      rw [List.getElem?_append_right (by omega), show (i + 1) * 4 + j - p.cells.length = i * 4 + j from by omega, ih i (by simpa using hi)]
theorem want_at {w : World} {A : Option Addr} {k c : Nat} {l : List PutIn} (h : SlS w A k c 4 (l.flatMap PutIn.cells)) (hl : l.length = k) (hk : 0 < k) : ∃ b off, A = some ⟨b, off, none⟩ ∧ b < w.heap.size ∧
    ∀ i x, l[i]? = some x → w.cell? ⟨b, off + i * 4, none⟩ = some (.int .i64 x.kind) ∧ w.cell? ⟨b, off + i * 4 + 1, none⟩ = some (.int .i64 x.num) ∧ w.cell? ⟨b, off + i * 4 + 2, none⟩ = some (.int .u64 (x.u : Int)) ∧ w.cell? ⟨b, off + i * 4 + 3, none⟩ = some (.slice x.A x.b.length x.c) := by
  rcases hA : A with _ | ad
  · have := h.nil hA; have := h.le; omega
  · obtain ⟨b, off, sp⟩ := ad
    have hb := h.blk _ hA
    simp only at hb
    obtain ⟨rfl, hbl⟩ := hb
    have key : ∀ i x j u, l[i]? = some x → j < 4 → x.cells[j]? = some u → w.cell? ⟨b, off + i * 4 + j, none⟩ = some u := fun i x j u hi hj hu => by
      have := h.cells _ hA (i * 4 + j) u (by rw [flat4 l i j x hi hj]; exact hu)
      rw [add_none, ← Nat.add_assoc] at this
      exact this
    exact ⟨b, off, rfl, hbl, fun i x hi => ⟨by simpa using key i x 0 _ hi (by decide) rfl, key i x 1 _ hi (by decide) rfl, key i x 2 _ hi (by decide) rfl, key i x 3 _ hi (by decide) rfl⟩⟩
end Go.Proofs.Ytihclbiohljmlaa
