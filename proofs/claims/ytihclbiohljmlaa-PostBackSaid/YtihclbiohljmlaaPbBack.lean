/- slices.Backward at fields: the iterator's contract. -/
import Derived.Test.YtihclbiohljmlaaChunkW
import Derived.Test.YtihclbiohljmlaaPbParse
namespace Go.Proofs.Ytihclbiohljmlaa
open Go.RowKit Go.Shelf
set_option linter.unusedVariables false

/-- What comes: the places and the fields, from the last one down. -/
def noFA : FA := ⟨FieldV.zero, none, 0⟩
def downs (ps : List FA) (k : Nat) : List (Nat × FA) := (List.range k).map fun j => (ps.length - 1 - j, ps.getD (ps.length - 1 - j) noFA)
theorem downs_succ (ps : List FA) (k : Nat) : downs ps (k + 1) = downs ps k ++ [(ps.length - 1 - k, ps.getD (ps.length - 1 - k) noFA)] := by simp [downs, List.range_succ]
theorem downs_length (ps : List FA) (k : Nat) : (downs ps k).length = k := by simp [downs]
theorem downs_snd (ps : List FA) (k : Nat) (hk : k ≤ ps.length) : (downs ps k).map (·.2) = ps.reverse.take k := by
  refine List.ext_getElem (by simp [downs]; omega) fun i h1 h2 => ?_
  simp [downs] at h1
  have : ps.length - 1 - i < ps.length := by omega
  simp [downs, this]

theorem flat_at (ps : List FA) (i j : Nat) (hi : i < ps.length) (hj : j < 5) : (ps.flatMap FA.cells)[i * 5 + j]? = (ps.getD i noFA).cells[j]? := by
  induction ps generalizing i with
  | nil => simp at hi
  | cons p ps ih =>
    have h5 : p.cells.length = 5 := rfl
    rw [List.flatMap_cons]
    cases i with
    | zero => rw [List.getElem?_append_left (by omega)]; simp
    | succ i =>
      rw [List.getElem?_append_right (by omega), show (i + 1) * 5 + j - p.cells.length = i * 5 + j from by omega, ih i (by simpa using hi)]
      simp
/-- A field's cells in a slice of fields. -/
theorem SlS.at5 {w : World} {A : Option Addr} {n c : Nat} {ps : List FA} (h : SlS w A n c 5 (ps.flatMap FA.cells)) (hl : ps.length = n) (hn : 0 < n) : ∃ b off, A = some ⟨b, off, none⟩ ∧ b < w.heap.size ∧
    ∀ i, i < n → w.cell? ⟨b, off + i * 5, none⟩ = some (.int .i64 ((ps.getD i noFA).f.num : Int)) ∧ w.cell? ⟨b, off + i * 5 + 1, none⟩ = some (.int .i64 ((ps.getD i noFA).f.wire : Int)) ∧ w.cell? ⟨b, off + i * 5 + 2, none⟩ = some (.int .u64 ((ps.getD i noFA).f.u : Int)) ∧
      w.cell? ⟨b, off + i * 5 + 3, none⟩ = some (.slice (ps.getD i noFA).A (ps.getD i noFA).f.b.length (ps.getD i noFA).c) ∧ w.cell? ⟨b, off + i * 5 + 4, none⟩ = some (.int .i64 ((ps.getD i noFA).f.at_ : Int)) := by
  rcases hA : A with _ | ad
  · have := h.nil hA; have := h.le; omega
  · obtain ⟨b, off, sp⟩ := ad
    have hb := h.blk _ hA
    simp only at hb
    obtain ⟨rfl, hbl⟩ := hb
    have key : ∀ i j u, i < n → j < 5 → (ps.getD i noFA).cells[j]? = some u → w.cell? ⟨b, off + i * 5 + j, none⟩ = some u := fun i j u hi hj hu => by
      have := h.cells _ hA (i * 5 + j) u (by rw [flat_at ps i j (by omega) hj]; exact hu)
      rw [add_none, ← Nat.add_assoc] at this
      exact this
    exact ⟨b, off, rfl, hbl, fun i hi => ⟨by simpa using key i 0 _ hi (by decide) rfl, key i 1 _ hi (by decide) rfl, key i 2 _ hi (by decide) rfl, key i 3 _ hi (by decide) rfl, key i 4 _ hi (by decide) rfl⟩⟩

set_option maxRecDepth 100000 in
set_option maxHeartbeats 2000000 in
theorem back1_in (F : Fence) (n : Nat) (h8 : F.fn 60) (hro : F.round = none) (hn : 1 ≤ n) (l Bs n₀ len cap : Nat) (A : Option Addr) (ps : List FA) (hreach : len ≤ 100000000) (hA : ∀ ad, A = some ad → ad.block < n₀) (hBn : Bs < n₀) (J Jx : List (Nat × FA) → World → Prop)
    (hY : ∀ pre x W, J pre W → pre.length < len → YieldAt F (n - 1) Try.prog l #[.int .i64 (x.1 : Int), fldV x.2.f x.2.A x.2.c] W fun e W' =>
      (e = .returned (.bool true) ∧ J (pre ++ [x]) W' ∧ Below n₀ W W') ∨ (e = .returned (.bool false) ∧ Jx (pre ++ [x]) W'))
    (W : World) (hBs : W.cell? ⟨Bs, 0, none⟩ = some (.slice A len cap)) (hs : SlS W A len cap 5 (ps.flatMap FA.cells)) (hl : ps.length = len) (h0 : J [] W) :
    CallsIn F n Try.prog 60 #[.func (.yield l) #[] #[], .pointer (some ⟨Bs, 0, none⟩)] W fun e W' => (∃ v, e = .returned v) ∧
      ((∃ ys, ys = downs ps len ∧ J ys W') ∨ (∃ pre, (∃ k, k ≤ len ∧ pre = downs ps k) ∧ Jx pre W')) := by
  have Hl := Lib.hid hl
  have Hs := Lib.hid hs
  have HA := Lib.hid hA
  clear hl hs hA
  refine callsIn_of_wp Try.func60 rfl h8 ?_ hro
  simp only [Try.ntmps60, List.size_toArray, List.length_cons, List.length_nil, Nat.reduceAdd, Nat.reduceSub, Array.replicate_succ, Array.replicate_zero, List.push_toArray, List.append_toArray, List.nil_append, List.cons_append]
  gi_wp2
  gi_loopw [3] (fun iv wr => ∃ (v : Int) (k : Nat), v + k + 1 = len ∧ -1 ≤ v ∧ iv = .int .i64 v ∧ J (downs ps k) wr ∧ Below n₀ W wr)
    (fun iv _ => (intOf iv + 1).toNat)
  case atStart => exact ⟨(len : Int) - 1, 0, by omega, by omega, rfl, h0, Below.refl _ _⟩
  case round =>
    obtain ⟨v, k, hv, hv1, rfl, hJs, hnx⟩ := hrel
    have cB : wr.cell? ⟨Bs, 0, none⟩ = some (.slice A len cap) := (hnx.cell (p := ⟨Bs, 0, none⟩) hBn).trans hBs
    by_cases hlt : 0 ≤ v
    · obtain ⟨i, rfl⟩ : ∃ i : Nat, v = i := ⟨v.toNat, by omega⟩
      obtain ⟨b, off, rfl, hbw, hcell⟩ := Hs.out.at5 Hl.out (by omega)
      have hbn := HA.out _ rfl
      simp only at hbn
      obtain ⟨c0, c1, c2, c3, c4⟩ := hcell i (by omega)
      obtain ⟨fn, tmps, assign, body, hy, hR⟩ := hY _ (i, ps.getD i noFA) wr hJs (by rw [downs_length]; omega)
      have hps := downs_succ ps k
      have hl := Hl.out
      rw [show ps.length - 1 - k = i from by omega] at hps
      dsimp only at hy
      unfold fldV at hy
      generalize ps.getD i noFA = p at *
      obtain ⟨⟨num, wire, u, bb, at_⟩, pA, pc⟩ := p
      dsimp only at hy c0 c1 c2 c3 c4
      have d0 := (hnx.cell (p := ⟨b, off + i * 5, none⟩) hbn).trans c0
      have d1 := (hnx.cell (p := ⟨b, off + i * 5 + 1, none⟩) hbn).trans c1
      have d2 := (hnx.cell (p := ⟨b, off + i * 5 + 2, none⟩) hbn).trans c2
      have d3 := (hnx.cell (p := ⟨b, off + i * 5 + 3, none⟩) hbn).trans c3
      have d4 := (hnx.cell (p := ⟨b, off + i * 5 + 4, none⟩) hbn).trans c4
      generalize bb.length = bl at *
      have Hps := Lib.hid hps
      have Hv : Hid ((i : Int) + k + 1 = len) := Lib.hid hv
      have hil : (i : Int) < len := by omega
      clear hcell hps c0 c1 c2 c3 c4 hl hv
      gi_wp2
      refine hR.mono ?_
      rintro e W3 (⟨rfl, hJ3, hk3⟩ | ⟨rfl, hJx3⟩)
      · gi_wp2
        go_roundw
        case rel => exact ⟨(i : Int) - 1, k + 1, by have := Hv.out; omega, by omega, rfl, by rw [Hps.out]; exact hJ3, hnx.trans hk3⟩
        case measure => first | (simp [intOf]; done) | (simp [intOf]; omega)
      · gi_wp2
        refine bodyPost_ret (results_none rfl _ _ _) rfl ?_
        exact ⟨⟨_, rfl⟩, .inr ⟨_, ⟨k + 1, by have := Hv.out; omega, Hps.out.symm⟩, hJx3⟩⟩
    · obtain rfl : v = -1 := by omega
      obtain rfl : k = len := by omega
      gi_wp2
      go_end0
      first
        | exact ⟨⟨_, rfl⟩, .inl ⟨_, rfl, hJs⟩⟩
        | exact ⟨⟨_, rfl⟩, .inl hJs⟩

set_option maxHeartbeats 400000 in
theorem back_p (A : Option Addr) (n c : Nat) (w : World) :
    Calls Try.prog 58 #[.slice A n c] w fun e w' => e = .returned (.func (.func 60) #[] #[.pointer (some ⟨w.heap.size, 0, none⟩)]) ∧ w' = w.alloc (.cells #[.slice A n c] 24) := by
  go_enter Try.func58, Try.ntmps58
  go_wp2_with fail
  go_ret
  exact ⟨rfl, rfl⟩

theorem back_stops (F : Fence) (n : Nat) (h8 : F.fn 60) (hro : F.round = none) (hn : 1 ≤ n) (Bs n₀ len cap : Nat) (A : Option Addr) (ps : List FA) (hreach : len ≤ 100000000) (w : World) (hA : ∀ ad, A = some ad → ad.block < n₀) (hBn : Bs < n₀) (hn₀ : n₀ ≤ w.heap.size)
    (hc : w.cell? ⟨Bs, 0, none⟩ = some (.slice A len cap)) (hs : SlS w A len cap 5 (ps.flatMap FA.cells)) (hl : ps.length = len) :
    SeqStopsK F n Try.prog 60 #[.pointer (some ⟨Bs, 0, none⟩)] (fun x : Nat × FA => #[Value.int .i64 (x.1 : Int), fldV x.2.f x.2.A x.2.c]) (Below n₀) (fun ys => ys = downs ps len) (fun pre => ∃ k, k ≤ len ∧ pre = downs ps k) len w := fun l J Jx W hW _ _ hY h0 =>
  back1_in F n h8 hro hn l Bs n₀ len cap A ps hreach hA hBn J Jx hY W ((hW.cell (p := ⟨Bs, 0, none⟩) (Nat.lt_of_lt_of_le hBn hn₀)).trans hc) (hs.keep hW) hl h0
end Go.Proofs.Ytihclbiohljmlaa
