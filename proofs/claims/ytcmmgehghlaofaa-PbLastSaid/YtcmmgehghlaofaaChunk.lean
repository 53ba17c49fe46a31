/- slices.Chunk at 128: the iterator's contract; an append inside a fence. -/
import Derived.RangeFuncBox
import Derived.RangeFuncNested
import Derived.RangeFuncBound
import Derived.RangeFuncCalls
import Derived.RangeFuncLeaves
import Derived.Shelf.Abstract
import Derived.Shelf.RegionOpen
import Derived.OwnWalkIn
import Derived.TacticsInMore
import Derived.LoopNIn
import Derived.LoopIn
import Derived.Test.YtcmmgehghlaofaaOps5
namespace Go.Proofs.Ytcmmgehghlaofaa
open Go.RowKit Go.Shelf
set_option linter.unusedVariables false

/-- Pieces that have come when k rounds are over: the numbers 0 .. k - 1; piece x is 128 elements from 128 * x on. -/
def pieceLen (len x : Nat) : Nat := min 128 (len - 128 * x)
def pieceV (g off len x : Nat) : Value := .slice (some ⟨g, off + 128 * x, none⟩) (pieceLen len x) (pieceLen len x)
def KeepBox (Bs Bn : Nat) (W W' : World) : Prop := W'.heap[Bs]? = W.heap[Bs]? ∧ W'.heap[Bn]? = W.heap[Bn]?
theorem keepBox_t {Bs Bn : Nat} {A B C : World} (h : KeepBox Bs Bn A B) (k : KeepBox Bs Bn B C) : KeepBox Bs Bn A C := ⟨k.1.trans h.1, k.2.trans h.2⟩
theorem KeepBox.refl (Bs Bn : Nat) (W : World) : KeepBox Bs Bn W W := ⟨rfl, rfl⟩
theorem keepBox_b {Bs Bn : Nat} {w : World} (h1 : Bs < w.heap.size) (h2 : Bn < w.heap.size) (W : World) (l : Nat) (o o' : Obj) (hl : w.heap.size ≤ l) (h : W.heap[l]? = some o) (_ : o.isCells = false) (_ : o.isWalk = false) : KeepBox Bs Bn W (W.putObj l o') :=
  ⟨World.putObj_heap_other (by omega), World.putObj_heap_other (by omega)⟩

def MidP (w1 : World) (A : Act) (e : Exit) (a : Act) (w' : World) : Prop := e = .normal ∧ a = A ∧ w' = w1
theorem wpIn_mid {F : Fence} {n : Nat} {P : Program} {c : Code} {Q : Exit → Act → World → Prop} {a : Act} {w : World} (w1 : World) (h : ∃ A, c.wpIn F n P (MidP w1 A) a w ∧ Q .normal A w1) : c.wpIn F n P Q a w := by
  obtain ⟨A, h1, h2⟩ := h
  refine wpIn_mono h1 ?_
  rintro e a w' ⟨rfl, rfl, rfl⟩
  exact h2

theorem run_slice_max {P : Program} {w : World} {t e : TypeId} {i : TypeInfo} (ht : P.underlying t = some (.slice e)) (hi : P.info? e = some i) (hsize : i.size = 1) (g off n c p q : Nat) (z : Int) (hz : z = ((p + q : Nat) : Int)) (hq : 0 < q) (hpq : p + q ≤ n) (hn : n ≤ c) (hc : c ≤ maxLen) :
    (Instr.slice t (.slice (some ⟨g, off, none⟩) n c) (some (.int .i64 (p : Int))) (some (.int .i64 z)) (some (.int .i64 z))).run P w = .ok (.slice (some ⟨g, off + p, none⟩) q q) w := by
  subst hz
  obtain ⟨s, hs⟩ : ∃ s, s = p + q := ⟨_, rfl⟩
  rw [← hs]
  have h1 : s ≤ c := by omega
  have h2 : ¬ s = p := by omega
  have h3 : p ≤ s := by omega
  have h4 : s - p = q := by omega
  simp [Instr.slice, run_underlying ht, Instr.sliceBounds, Instr.sliceBound, asIntOf, h1, h2, h3, h4, sizeOf, typeInfo, hi, hsize, add_none]

set_option maxRecDepth 100000 in
set_option maxHeartbeats 2000000 in
theorem chunk1_in (F : Fence) (n : Nat) (hF : F.fn 90) (hro : F.round = none) (hn : 1 ≤ n) (l Bs Bn g off len cap : Nat) (A : Option Addr) (hA : 0 < len → A = some ⟨g, off, none⟩) (t1 t2 : TypeId) (hlc : len ≤ cap) (hmax' : cap ≤ maxLen) (hmax : len ≤ 1000000000000) (J Jx : List Nat → World → Prop)
    (hY : ∀ pre x W, J pre W → pre.length < (len + 127) / 128 → YieldAt F (n - 1) Try.prog l #[pieceV g off len x] W fun e W' =>
      (e = .returned (.bool true) ∧ J (pre ++ [x]) W' ∧ KeepBox Bs Bn W W') ∨ (e = .returned (.bool false) ∧ Jx (pre ++ [x]) W'))
    (W : World) (hJ : AbidesFrom W.heap.size J) (hBs : Boxed W Bs t1 (.slice A len cap)) (hBn : Boxed W Bn t2 (.int .i64 128)) (h0 : J [] W) :
    CallsIn F n Try.prog 90 #[.func (.yield l) #[] #[], .pointer (some ⟨Bs, 0, none⟩), .pointer (some ⟨Bn, 0, none⟩)] W fun e W' => (∃ v, e = .returned v) ∧
      ((∃ ys, ys = List.range ((len + 127) / 128) ∧ J ys W') ∨ (∃ pre, True ∧ Jx pre W')) := by
  obtain ⟨i0, hi, hz0, hz1, hz2⟩ := info_parts Try.info5
  have hsl : ∀ (w : World) (k : Nat), k ≤ len → (Instr.slice 22 (.slice (some ⟨g, off, none⟩) len cap) (some (.int .i64 (k : Int))) none none).run Try.prog w = .ok (.slice (dropA (some ⟨g, off, none⟩) cap k) (len - k) (cap - k)) w :=
    fun w k hk => run_slice_lo Try.underlying22 hi hz1 _ len cap k hk hlc hmax'
  have Hsl := Lib.hid hsl
  have Hn := Lib.hid hn
  have HJ := Lib.hid hJ
  have HBs := Lib.hid hBs
  have HBn := Lib.hid hBn
  have cBs := hBs.cell
  have cBn := hBn.cell
  clear hsl hJ hBs hBn
  refine callsIn_of_wp Try.func90 rfl hF ?_ hro
  simp only [Try.ntmps90, List.size_toArray, List.length_cons, List.length_nil, Nat.reduceAdd, Nat.reduceSub, Array.replicate_succ, Array.replicate_zero, List.push_toArray, List.append_toArray, List.nil_append, List.cons_append]
  gi_wp2
  gi_loopw [4] (fun i wr => ∃ k : Nat, k ≤ (len + 127) / 128 ∧ i = .int .i64 ((128 * k : Nat) : Int) ∧ J (List.range k) wr ∧ KeepBox Bs Bn W wr)
    (fun i _ => len - (intOf i).toNat)
  case atStart => exact ⟨0, Nat.zero_le _, rfl, h0, KeepBox.refl _ _ _⟩
  case round =>
    obtain ⟨k, hk, rfl, hJs, hkb⟩ := hrel
    have c1 : Boxed wr Bs t1 (.slice A len cap) := hkb.1.trans HBs.out
    have c2 : Boxed wr Bn t2 (.int .i64 128) := hkb.2.trans HBn.out
    have cc1 := c1.cell
    have cc2 := c2.cell
    by_cases hlt : 128 * k < len
    · obtain rfl := hA (by omega)
      obtain ⟨fn, tmps, assign, body, hy, hR⟩ := hY _ k wr.drew (HJ.out _ _ _ none hJs ⟨rfl, rfl, rfl, by simp, fun _ _ _ => rfl⟩ (fun r e => by cases e)) (by simp; omega)
      have hk1 : k + 1 ≤ (len + 127) / 128 := by omega
      obtain ⟨p, hp⟩ : ∃ p, p = 128 * k := ⟨_, rfl⟩
      obtain ⟨q, hq⟩ : ∃ q, q = min 128 (len - p) := ⟨_, rfl⟩
      have hpv : pieceV g off len k = .slice (some ⟨g, off + p, none⟩) q q := by unfold pieceV pieceLen; rw [hq, hp]
      rw [hpv] at hy
      have hsl := fun w => Hsl.out w p (by omega)
      rw [← hp]
      have hplt : p < len := by omega
      have Hp := Lib.hid hp
      clear hp hpv hlt
      by_cases hm : 128 ≤ len - p
      · obtain rfl : q = 128 := by omega
        have hsl3 := fun w => run_slice_max (w := w) Try.underlying22 hi hz1 g off len cap p 128 ((p : Int) + 128) (by omega) (by omega) (by omega) hlc hmax'
        clear hq
        gi_wp2
        refine wpIn_mid wr.drew ?_
        apply Exists.intro
        refine ⟨?first, ?rest⟩
        case first =>
          gi_region
          all_goals exact ⟨rfl, rfl, rfl⟩
        case rest =>
          gi_wp2
          refine hR.mono ?_
          rintro e W3 (⟨rfl, hJ3, hk3⟩ | ⟨rfl, hJx3⟩)
          · have c3 : Boxed W3 Bs t1 (.slice (some ⟨g, off, none⟩) len cap) := hk3.1.trans c1
            have c4 : Boxed W3 Bn t2 (.int .i64 128) := hk3.2.trans c2
            have cc3 := c3.cell
            have cc4 := c4.cell
            gi_wp2
            go_roundw
            case rel => exact ⟨k + 1, hk1, congrArg (Value.int .i64) (by have := Hp.out; omega), by rw [List.range_succ]; exact hJ3, keepBox_t hkb hk3⟩
            case measure => simp only [intOf]; omega
          · gi_wp2
            refine bodyPost_ret (results_none rfl _ _ _) rfl ?_
            exact ⟨⟨_, rfl⟩, .inr ⟨_, trivial, hJx3⟩⟩
      · obtain rfl : q = len - p := by omega
        have hsl3 := fun w => run_slice_max (w := w) Try.underlying22 hi hz1 g off len cap p (len - p) (len : Int) (by omega) (by omega) (by omega) hlc hmax'
        have hsl4 := fun w => run_slice_max (w := w) Try.underlying22 hi hz1 g off len cap p (len - p) ((p : Int) + ((len : Int) - (p : Int))) (by omega) (by omega) (by omega) hlc hmax'
        clear hq
        gi_wp2
        refine wpIn_mid wr.drew ?_
        apply Exists.intro
        refine ⟨?first, ?rest⟩
        case first =>
          gi_region
          all_goals exact ⟨rfl, rfl, rfl⟩
        case rest =>
          gi_wp2
          refine hR.mono ?_
          rintro e W3 (⟨rfl, hJ3, hk3⟩ | ⟨rfl, hJx3⟩)
          · have c3 : Boxed W3 Bs t1 (.slice (some ⟨g, off, none⟩) len cap) := hk3.1.trans c1
            have c4 : Boxed W3 Bn t2 (.int .i64 128) := hk3.2.trans c2
            have cc3 := c3.cell
            have cc4 := c4.cell
            gi_wp2
            go_roundw
            case rel => exact ⟨k + 1, hk1, congrArg (Value.int .i64) (by have := Hp.out; omega), by rw [List.range_succ]; exact hJ3, keepBox_t hkb hk3⟩
            case measure => simp only [intOf]; omega
          · gi_wp2
            refine bodyPost_ret (results_none rfl _ _ _) rfl ?_
            exact ⟨⟨_, rfl⟩, .inr ⟨_, trivial, hJx3⟩⟩
    · obtain rfl : k = (len + 127) / 128 := by omega
      gi_wp2
      go_end0
      exact ⟨⟨_, rfl⟩, .inl ⟨_, rfl, hJs⟩⟩
end Go.Proofs.Ytcmmgehghlaofaa
