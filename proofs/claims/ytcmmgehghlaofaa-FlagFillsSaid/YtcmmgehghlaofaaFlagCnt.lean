/- slices.All at bools; flags.Count. -/
import Derived.Test.YtcmmgehghlaofaaChunk
import Derived.Test.YtcmmgehghlaofaaFlagErr
namespace Go.Proofs.Ytcmmgehghlaofaa
open Go.RowKit Go.Shelf
open PackMath
set_option linter.unusedVariables false

/-- What comes: the places and the bits. -/
def pairsTo (l : List Bool) (k : Nat) : List (Nat × Bool) := (List.range k).map fun j => (j, l.getD j false)
theorem pairsTo_succ (l : List Bool) (k : Nat) : pairsTo l (k + 1) = pairsTo l k ++ [(k, l.getD k false)] := by simp [pairsTo, List.range_succ]
theorem pairsTo_length (l : List Bool) (k : Nat) : (pairsTo l k).length = k := by simp [pairsTo]
def cntP (ps : List (Nat × Bool)) : Nat := cntS (ps.map (·.2))
theorem cntP_snoc (ps : List (Nat × Bool)) (x : Nat × Bool) : cntP (ps ++ [x]) = cntP ps + x.2.toNat := by simp [cntP, cntS_append, cntS]
theorem cntP_le (ps : List (Nat × Bool)) : cntP ps ≤ ps.length := by have := cntS_le (ps.map (·.2)); simpa [cntP] using this
theorem cntP_all (l : List Bool) : cntP (pairsTo l l.length) = cntS l := by
  unfold cntP pairsTo
  rw [List.map_map]
  congr 1
  refine List.ext_getElem (by simp) fun i h1 h2 => ?_
  simp [h2]

set_option maxRecDepth 100000 in
set_option maxHeartbeats 2000000 in
theorem all1_in (F : Fence) (n : Nat) (h8 : F.fn 93) (hro : F.round = none) (hn : 1 ≤ n) (l Bs n₀ len cap : Nat) (A : Option Addr) (zs : List Bool) (hreach : len ≤ 100000000) (hA : ∀ ad, A = some ad → 0 < len → ad.block < n₀) (J Jx : List (Nat × Bool) → World → Prop)
    (hY : ∀ pre x W, J pre W → pre.length < len → YieldAt F (n - 1) Try.prog l #[.int .i64 (x.1 : Int), .bool x.2] W fun e W' =>
      (e = .returned (.bool true) ∧ J (pre ++ [x]) W' ∧ Below n₀ W W') ∨ (e = .returned (.bool false) ∧ Jx (pre ++ [x]) W'))
    (W : World) (hBs : W.cell? ⟨Bs, 0, none⟩ = some (.slice A len cap)) (hs : Sl W A len cap (bools zs)) (h0 : J [] W) :
    CallsIn F n Try.prog 93 #[.func (.yield l) #[] #[], .pointer (some ⟨Bs, 0, none⟩)] W fun e W' => (∃ v, e = .returned v) ∧
      ((∃ ys, ys = pairsTo zs len ∧ J ys W') ∨ (∃ pre, True ∧ Jx pre W')) := by
  have hlen := hs.len
  rw [bools_length] at hlen
  have Hlen := Lib.hid hlen
  have Hs := Lib.hid hs
  have HA := Lib.hid hA
  clear hlen hs hA
  refine callsIn_of_wp Try.func93 rfl h8 ?_ hro
  simp only [Try.ntmps93, List.size_toArray, List.length_cons, List.length_nil, Nat.reduceAdd, Nat.reduceSub, Array.replicate_succ, Array.replicate_zero, List.push_toArray, List.append_toArray, List.nil_append, List.cons_append]
  gi_wp2
  gi_loopw [7] (fun i wr => ∃ k : Nat, k ≤ len ∧ i = .int .i64 k ∧ J (pairsTo zs k) wr ∧ Below n₀ W wr)
    (fun i _ => len - (intOf i).toNat)
  case atStart => exact ⟨0, Nat.zero_le _, rfl, h0, Below.refl _ _⟩
  case round =>
    obtain ⟨k, hk, rfl, hJs, hnx⟩ := hrel
    by_cases hlt : k < len
    · obtain ⟨b, off, rfl, hbw, hcell⟩ := Hs.out.at_ (by omega)
      have hcx : wr.cell? ⟨b, off + k, none⟩ = some (.bool (zs.getD k false)) := by
        rw [hnx.cell (p := ⟨b, off + k, none⟩) (HA.out ⟨b, off, none⟩ rfl (by omega)), hcell k hlt, bools_getD _ _ (by rw [Hlen.out]; exact hlt)]
      obtain ⟨fn, tmps, assign, body, hy, hR⟩ := hY _ (k, zs.getD k false) wr hJs (by rw [pairsTo_length]; exact hlt)
      dsimp only at hy
      have hps := pairsTo_succ zs k
      generalize zs.getD k false = z at *
      have Hps := Lib.hid hps
      clear hcell hps
      gi_wp2
      refine hR.mono ?_
      rintro e W3 (⟨rfl, hJ3, hk3⟩ | ⟨rfl, hJx3⟩)
      · gi_wp2
        go_roundw
        case rel => exact ⟨k + 1, by omega, by simp, by rw [Hps.out]; exact hJ3, hnx.trans hk3⟩
        case measure => simp [intOf]; omega
      · gi_wp2
        refine bodyPost_ret (results_none rfl _ _ _) rfl ?_
        exact ⟨⟨_, rfl⟩, .inr ⟨_, trivial, hJx3⟩⟩
    · obtain rfl : k = len := by omega
      gi_wp2
      go_end0
      exact ⟨⟨_, rfl⟩, .inl ⟨_, rfl, hJs⟩⟩

set_option maxHeartbeats 400000 in
theorem all_p (A : Option Addr) (n c : Nat) (w : World) :
    Calls Try.prog 69 #[.slice A n c] w fun e w' => e = .returned (.func (.func 93) #[] #[.pointer (some ⟨w.heap.size, 0, none⟩)]) ∧ w' = w.alloc (.cells #[.slice A n c] 40) := by
  go_enter Try.func69, Try.ntmps69
  go_wp2_with fail
  go_ret
  exact ⟨rfl, rfl⟩

theorem all_stops (F : Fence) (n : Nat) (h8 : F.fn 93) (hro : F.round = none) (hn : 1 ≤ n) (Bs n₀ len cap : Nat) (A : Option Addr) (zs : List Bool) (hreach : len ≤ 100000000) (w : World) (hA : ∀ ad, A = some ad → 0 < len → ad.block < n₀) (hBs : Bs < w.heap.size)
    (hc : w.cell? ⟨Bs, 0, none⟩ = some (.slice A len cap)) (hs : Sl w A len cap (bools zs)) :
    SeqStopsK F n Try.prog 93 #[.pointer (some ⟨Bs, 0, none⟩)] (fun x : Nat × Bool => #[Value.int .i64 (x.1 : Int), .bool x.2]) (Below n₀) (fun ys => ys = pairsTo zs len) (fun _ => True) len w := fun l J Jx W hW _ _ hY h0 =>
  all1_in F n h8 hro hn l Bs n₀ len cap A zs hreach hA J Jx hY W ((hW.cell (p := ⟨Bs, 0, none⟩) hBs).trans hc) (hs.keep hW) h0

set_option maxRecDepth 100000 in
set_option maxHeartbeats 4000000 in
theorem count_in (F : Fence) (N : Nat) (h35 : F.fn 35) (h69 : F.fn 69) (h93 : F.fn 93) (hro : F.round = none) (hN : 5 ≤ N) (A : Option Addr) (n c : Nat) (l : List Bool) (w : World) (hs : Sl w A n c (bools l)) (hn : n ≤ 100000000)
    (allP : ∀ w, CallsIn F (N - 1) Try.prog 69 #[.slice A n c] w fun e w' => e = .returned (.func (.func 93) #[] #[.pointer (some ⟨w.heap.size, 0, none⟩)]) ∧ w' = w.alloc (.cells #[.slice A n c] 40)) :
    CallsIn F N Try.prog 35 #[.slice A n c] w fun e W' => e = .returned (.int .i64 ((cntS l : Nat) : Int)) ∧ Below w.heap.size w W' := by
  have h1 : 1 ≤ N := by omega
  have hlen := hs.len
  rw [bools_length] at hlen
  have hA : ∀ ad, A = some ad → 0 < n → ad.block < w.heap.size := fun ad hA h0 => by
    obtain ⟨b, off, hA2, hb, _⟩ := hs.at_ h0
    rw [hA2] at hA; cases hA; exact hb
  have Hs := Lib.hid hs
  have Hlen := Lib.hid hlen
  have HA := Lib.hid hA
  have HallP := Lib.hid allP
  clear hs hlen hA allP
  refine callsIn_of_wp_marks Try.func35 rfl h35 ?_ hro
  simp only [Try.ntmps35, List.size_toArray, List.length_cons, List.length_nil, Nat.reduceAdd, Nat.reduceSub, Array.replicate_succ, Array.replicate_zero, List.push_toArray, List.append_toArray, List.nil_append, List.cons_append]
  gi_wp2_with (gi_at_call 69; refine (HallP.out _).mono ?_; rintro e w' ⟨rfl, rfl⟩)
  obtain ⟨w1, hw1⟩ : ∃ w1, (w.alloc (.cells #[.int .i64 0] 3)).alloc (.cells #[.slice A n c] 40) = w1 := ⟨_, rfl⟩
  have hb1 : Below w.heap.size w w1 := by rw [← hw1]; exact ((Below.refl _ w).alloc (Nat.le_refl _) _).alloc (by simp) _
  have hsz1 : w1.heap.size = w.heap.size + 2 := by rw [← hw1]; simp
  have bn1 : Boxed w1 w.heap.size 3 (.int .i64 0) := by rw [← hw1]; exact (Boxed.new w _ _).alloc _
  have bs1 : Boxed w1 (w.heap.size + 1) 40 (.slice A n c) := by
    rw [← hw1]
    have := Boxed.new (w.alloc (.cells #[.int .i64 0] 3)) 40 (.slice A n c)
    rwa [World.size_alloc] at this
  rw [hw1]
  clear hw1
  refine wpIn_rangeFunc_ownG hro h1 (gf := 93) (lb := #[.pointer (some ⟨w.heap.size + 1, 0, none⟩)]) rfl h93 (enters_of Try.func93 (by kernel_rfl) rfl)
    (all_stops F (N - 1) h93 hro (by omega) (w.heap.size + 1) w.heap.size n c A l hn w1 HA.out (by omega) bs1.cell (Hs.out.keep hb1)) belowK_t (belowK_b (by omega)) (Below.refl _ _) (fun _ => rfl)
    (fun pre W => Boxed W w.heap.size 3 (.int .i64 ((cntP pre : Nat) : Int)) ∧ Below w.heap.size w W)
    (fun _ _ _ => False)
    (OwnFrom.and (Own.from (fun s X Y row hs hg hr => hs.kept hg (fun e => by
        obtain ⟨o, ho, hc⟩ := hr w.heap.size e.symm
        rw [show X.heap[w.heap.size]? = _ from hs] at ho; cases ho; cases hc)) _) (ownFrom_below (Nat.le_refl _) (by omega)))
    (fun _ _ _ _ _ hs _ _ => hs)
    ⟨bn1, hb1⟩
    (fun x => { tmps := #[.slice A n c, undef, .int .i64 0, .pointer (some ⟨w.heap.size, 0, none⟩), undef, .bool x.2, .slice A n c, .func (.func 93) #[] #[.pointer (some ⟨w.heap.size + 1, 0, none⟩)], .int .i64 (x.1 : Int), .bool x.2, undef, undef, undef, undef], defers := [] }) ?assign ?body ?done ?stop
  case assign =>
    intro l x W K hK
    have hsem := Oper.semAt_some
    gi_wp2
    exact hK
  case body =>
    rintro l pre ⟨j, z⟩ W ⟨hb, hB⟩ hlt
    have hsem := Oper.semAt_some
    have hc := hb.cell
    have hf := hb.frozen
    have hle := cntP_le pre
    have hsn := cntP_snoc pre (j, z)
    have Hb := Lib.hid hb
    have Hsn := Lib.hid hsn
    clear hb hsn
    generalize hq : cntP pre = q at *
    clear hq
    cases z with
    | true =>
      gi_wp2
      have h2 := Hsn.out
      refine ⟨(KeepsOthers.setCell _ _ _).from _, (Below.refl _ W).setCell (p := ⟨w.heap.size, 0, none⟩) (Nat.le_refl _) _, ?_, hB.setCell (p := ⟨w.heap.size, 0, none⟩) (Nat.le_refl _) _⟩
      rw [h2]
      have h3 := Hb.out.set (.int .i64 ((q : Int) + 1))
      have e : ((q + (j, true).2.toNat : Nat) : Int) = (q : Int) + 1 := by simp
      rw [e]
      exact h3
    | false =>
      gi_wp2
      have h2 := Hsn.out
      refine ⟨KeepsFrom.refl _ _, Below.refl _ W, ?_, hB⟩
      rw [h2]
      exact Hb.out
  case done =>
    rintro D ys W hD rfl ⟨hb, hB⟩ hK
    have hc := hb.cell
    have hall : cntP (pairsTo l n) = cntS l := by rw [← Hlen.out]; exact cntP_all l
    rw [hall] at hc
    have HK := Lib.hid hK
    clear hall hK hb
    gi_wp2
    refine ⟨by simp, .inl ⟨_, _, rfl, run_takeDeferred HK.out, ?_⟩⟩
    exact ⟨_, results_tmp rfl _ _ _, rfl, hB.trans (belowK_b (w := w) (Nat.le_refl _) W D _ _ (by omega) HK.out rfl rfl)⟩
  case stop =>
    rintro D c pre W _ _ h _
    exact h.elim

theorem count_p (A : Option Addr) (n c : Nat) (l : List Bool) (w : World) (hs : Sl w A n c (bools l)) (hn : n ≤ 100000000) :
    Calls Try.prog 35 #[.slice A n c] w fun e W' => e = .returned (.int .i64 ((cntS l : Nat) : Int)) ∧ Below w.heap.size w W' :=
  (callsIn_wide (n := 5)).1 (count_in Fence.wide 5 trivial trivial trivial rfl (Nat.le_refl _) A n c l w hs hn fun w => callsIn_wide.2 (all_p A n c w))
end Go.Proofs.Ytcmmgehghlaofaa
