/- Words for ranges over functions. -/
import Derived.RangeFuncBox
import Derived.RangeFuncNested
import Derived.RangeFuncBound
import Derived.RangeFuncCalls
import Derived.RangeFuncLeaves
import Derived.Shelf.Abstract
import Derived.Shelf.RegionOpen
import Derived.OwnWalkIn
import Derived.TacticsInMore
import Derived.LoopNIn
import Derived.LoopIn
import Derived.Test.YtihclbiohljmlaaOps5
namespace Go.Proofs.Ytihclbiohljmlaa
open Go.RowKit Go.Shelf
set_option linter.unusedVariables false

/-- Pieces that have come when k rounds are over: the numbers 0 .. k - 1; piece x is 128 elements from 128 * x on. -/
def pieceLen (len x : Nat) : Nat := min 128 (len - 128 * x)
def pieceV (g off len x : Nat) : Value := .slice (some ⟨g, off + 128 * x, none⟩) (pieceLen len x) (pieceLen len x)
def KeepBox (Bs Bn : Nat) (W W' : World) : Prop := W'.heap[Bs]? = W.heap[Bs]? ∧ W'.heap[Bn]? = W.heap[Bn]?
theorem keepBox_t {Bs Bn : Nat} {A B C : World} (h : KeepBox Bs Bn A B) (k : KeepBox Bs Bn B C) : KeepBox Bs Bn A C := ⟨k.1.trans h.1, k.2.trans h.2⟩
theorem KeepBox.refl (Bs Bn : Nat) (W : World) : KeepBox Bs Bn W W := ⟨rfl, rfl⟩
theorem keepBox_b {Bs Bn : Nat} {w : World} (h1 : Bs < w.heap.size) (h2 : Bn < w.heap.size) (W : World) (l : Nat) (o o' : Obj) (hl : w.heap.size ≤ l) (h : W.heap[l]? = some o) (_ : o.isCells = false) (_ : o.isWalk = false) : KeepBox Bs Bn W (W.putObj l o') :=
  ⟨World.putObj_heap_other (by omega), World.putObj_heap_other (by omega)⟩

def MidP (w1 : World) (A : Act) (e : Exit) (a : Act) (w' : World) : Prop := e = .normal ∧ a = A ∧ w' = w1
theorem wpIn_mid {F : Fence} {n : Nat} {P : Program} {c : Code} {Q : Exit → Act → World → Prop} {a : Act} {w : World} (w1 : World) (h : ∃ A, c.wpIn F n P (MidP w1 A) a w ∧ Q .normal A w1) : c.wpIn F n P Q a w := by
  obtain ⟨A, h1, h2⟩ := h
  refine wpIn_mono h1 ?_
  rintro e a w' ⟨rfl, rfl, rfl⟩
  exact h2

theorem run_slice_max {P : Program} {w : World} {t e : TypeId} {i : TypeInfo} (ht : P.underlying t = some (.slice e)) (hi : P.info? e = some i) (hsize : i.size = 1) (g off n c p q : Nat) (z : Int) (hz : z = ((p + q : Nat) : Int)) (hq : 0 < q) (hpq : p + q ≤ n) (hn : n ≤ c) (hc : c ≤ maxLen) :
    (Instr.slice t (.slice (some ⟨g, off, none⟩) n c) (some (.int .i64 (p : Int))) (some (.int .i64 z)) (some (.int .i64 z))).run P w = .ok (.slice (some ⟨g, off + p, none⟩) q q) w := by
  subst hz
  obtain ⟨s, hs⟩ : ∃ s, s = p + q := ⟨_, rfl⟩
  rw [← hs]
  have h1 : s ≤ c := by omega
  have h2 : ¬ s = p := by omega
  have h3 : p ≤ s := by omega
  have h4 : s - p = q := by omega
  simp [Instr.slice, run_underlying ht, Instr.sliceBounds, Instr.sliceBound, asIntOf, h1, h2, h3, h4, sizeOf, typeInfo, hi, hsize, add_none]
end Go.Proofs.Ytihclbiohljmlaa
