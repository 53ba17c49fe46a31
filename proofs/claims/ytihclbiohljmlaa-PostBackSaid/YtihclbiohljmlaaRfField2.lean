/- The reference's field: a text, a number of eight bytes, of four; what it answers for any bytes. -/
import Derived.Test.YtihclbiohljmlaaRfField
namespace Go.Proofs.Ytihclbiohljmlaa
open Go.RowKit
open PackMath
set_option linter.unusedVariables false

set_option maxHeartbeats 1600000 in
set_option maxRecDepth 4000 in
theorem rfield_text (A : Option Addr) (n c : Nat) (bs : List Nat) (k : Nat) (w : World) (hb : Sl w A n c (nats .u8 bs)) (hbs : ∀ x ∈ bs, x < 256) (hk : k ≤ n) (hn : n ≤ 1000000000000) (q a : Nat) (hv : varS bs k = (q, a, 0)) (hq : q < 18446744073709551616)
    (nm : Nat) (hnm : q / 8 = nm) (hwr : q % 8 = 2) (h1 : 1 ≤ nm) (h2 : nm ≤ 536870911) (ha : a ≤ 10) (v m : Nat) (hv2 : varS bs ((k : Int) + a) = (v, m, 0)) (hkm : k + a + m ≤ n) (hvl : k + a + m + v ≤ n) :
    Calls Try.prog 39 #[.slice A n c, .int .i64 (k : Int)] w fun e w' => ∃ B cB, e = .returned (.tuple #[.agg #[.int .i64 (nm : Int), .int .i64 2, .int .u64 0, .slice B v cB, .int .i64 (k : Int)], .int .i64 ((k + (a + m + v) : Nat) : Int), .int .i64 0]) ∧ Sl w' B v cB (nats .u8 ((bs.drop (k + a + m)).take v)) ∧ Typ w' B 5 ∧ Below w.heap.size w w' := by
  have e7 := and_7 q hq
  rw [hwr] at e7
  have ed : (q : Int) / 8 = (nm : Int) := by omega
  obtain ⟨i0, hi, hz0, hz1, hz2⟩ := info_parts Try.info5
  have hcut := hb.cut (k + a + m) (k + a + m + v) (by omega) (by omega)
  rw [show k + a + m + v - (k + a + m) = v from by omega] at hcut
  have hsl : ∀ w : World, (Instr.slice 22 (.slice A n c) (some (.int .i64 ((k : Int) + (a : Int) + (m : Int)))) (some (.int .i64 ((k : Int) + (a : Int) + (m : Int) + (v : Int)))) none).run Try.prog w = .ok (.slice (dropA A c (k + a + m)) v (c - (k + a + m))) w := fun w => by
    have := run_slice_lohi (w := w) (P := Try.prog) Try.underlying22 hi hz1 A n c (k + a + m) (k + a + m + v) (by omega) (by omega) hb.le hb.max
    rw [show k + a + m + v - (k + a + m) = v from by omega, show ((k + a + m + v : Nat) : Int) = (k : Int) + (a : Int) + (m : Int) + (v : Int) from by omega, show ((k + a + m : Nat) : Int) = (k : Int) + (a : Int) + (m : Int) from by omega] at this
    exact this
  have hxs : nats .u8 ((bs.drop (k + a + m)).take v) = ((nats .u8 bs).drop (k + a + m)).take v := by simp [nats, List.map_drop, List.map_take]
  rw [hxs]
  generalize dropA A c (k + a + m) = A2 at hcut hsl
  generalize c - (k + a + m) = c2 at hcut hsl
  have Hcut := Lib.hid hcut
  have Hone := Lib.hid hcut.one
  clear hcut hxs
  have Hv := Lib.hid hv
  have Hv2 := Lib.hid hv2
  clear hv hq hnm hwr hv2
  go_enter Try.func39, Try.ntmps39
  go_wp2_with fail
  refine (varr A n c bs k _ (hb.keep ((Below.refl _ _).alloc (Nat.le_refl _) _)) hbs (by omega) (by omega)).mono ?_
  rintro e w1 ⟨rfl, rfl⟩
  rw [Hv.out]
  unfold varV
  go_wp2_with fail
  refine (varr A n c bs ((k : Int) + a) _ (hb.keep (((Below.refl _ _).alloc (Nat.le_refl _) _).alloc (by simp) _)) hbs (by omega) (by omega)).mono ?_
  rintro e w2 ⟨rfl, rfl⟩
  rw [Hv2.out]
  unfold varV
  obtain ⟨W2, hW2⟩ : ∃ W2, W2 = (w.alloc (.cells #[.int .i64 0, .int .i64 0, .int .u64 0, .slice none 0 0, .int .i64 0] 84)).alloc (.cells #[.int .i64 (nm : Int), .int .i64 2, .int .u64 0, .slice none 0 0, .int .i64 (k : Int)] 84) := ⟨_, rfl⟩
  have bA := heap_alloc2_old w (.cells #[.int .i64 0, .int .i64 0, .int .u64 0, .slice none 0 0, .int .i64 0] 84) (.cells #[.int .i64 (nm : Int), .int .i64 2, .int .u64 0, .slice none 0 0, .int .i64 (k : Int)] 84)
  have bB := heap_alloc2_new w (.cells #[.int .i64 0, .int .i64 0, .int .u64 0, .slice none 0 0, .int .i64 0] 84) (.cells #[.int .i64 (nm : Int), .int .i64 2, .int .u64 0, .slice none 0 0, .int .i64 (k : Int)] 84)
  have hW2b : Below w.heap.size w W2 := by rw [hW2]; exact ((Below.refl _ _).alloc (Nat.le_refl _) _).alloc (by simp) _
  have hW2s : W2.heap.size = w.heap.size + 2 := by rw [hW2]; simp
  rw [← hW2] at bA bB
  have ho : (W2.alloc (.cells #[] 5)).ownsRow W2.heap.size 5 1 (.slice (some ⟨W2.heap.size, 0, none⟩) 0 0) 0 [] := World.ownsRow_made W2 #[] 0 (Nat.le_refl _) (by decide) rfl
  rw [← hW2]
  have HbA := Lib.hid bA
  have HbB := Lib.hid bB
  have HW2b := Lib.hid hW2b
  have HW2s := Lib.hid hW2s
  have hs2 : Sl (W2.alloc (.cells #[] 5)) A2 v c2 (((nats .u8 bs).drop (k + a + m)).take v) := (Hcut.out.keep hW2b).keep (below_new _ _)
  have cB1 : W2.cell? ⟨w.heap.size + 1, 1, none⟩ = some (.int .i64 2) := by rw [cell_of_row _ _ _ _ _ _ bB]; rfl
  clear hW2 bA bB hW2b hW2s
  go_wp2_with (at_builtin; refine wpList_append_sl rfl (.tmp 98) (.tmp 105) 22 rfl W2.heap.size 5 i0 (.int .u8 0) 1 Try.underlying22 hi hz0 hz1 hz2 rfl _ 0 [] rfl ho A2 v c2 _ rfl hs2 ?c1 ?c2 ?c3 ?_)
  case c1 => unfold maxLen; omega
  case c2 => omega
  case c3 => simp
  intro ov w4 ho4 hb4 _ _
  obtain ⟨B, cB, rfl, sB⟩ := Sl.of_own ho4 Hone.out
  have tB := Typ.of_own ho4
  have hbW : Below W2.heap.size W2 w4 := (below_new _ _).trans hb4
  have bA3 := (hbW.block w.heap.size (by rw [HW2s.out]; omega)).trans HbA.out
  have bB3 := (hbW.block (w.heap.size + 1) (by rw [HW2s.out]; omega)).trans HbB.out
  have cB3 : w4.cell? ⟨w.heap.size + 1, 3, none⟩ = some (.slice none 0 0) := by rw [cell_of_row _ _ _ _ _ _ bB3]; rfl
  have fB3 : w4.frozen? ⟨w.heap.size + 1, 3, none⟩ = false := frozen_of_row _ _ _ _ _ bB3
  have bB4 : (w4.setCell ⟨w.heap.size + 1, 3, none⟩ (.slice B v cB)).heap[w.heap.size + 1]? = some (.cells #[.int .i64 (nm : Int), .int .i64 2, .int .u64 0, .slice B v cB, .int .i64 (k : Int)] 84 (0, 0)) := heap_setCell_same _ _ _ _ _ _ bB3
  have bA4 : (w4.setCell ⟨w.heap.size + 1, 3, none⟩ (.slice B v cB)).heap[w.heap.size]? = some (.cells #[.int .i64 0, .int .i64 0, .int .u64 0, .slice none 0 0, .int .i64 0] 84 (0, 0)) := (heap_setCell_other _ _ _ _ (by simp)).trans bA3
  have HbB4 := Lib.hid bB4
  have HbA4 := Lib.hid bA4
  have Ho4 := Lib.hid ho4
  have HtB := Lib.hid tB
  have HbW := Lib.hid hbW
  have HsB := Lib.hid sB
  clear bB4 bA4 bA3 bB3 ho4 tB hbW hb4 sB ho hs2 cB1
  go_wp2_with (first
    | (refine wpList_load_row rfl 84 (.tmp 10) rfl (w.heap.size + 1) rfl 84 _ (0, 0) _ HbB4.out Try.underlying84 rfl (by kernel_rfl) ?_)
    | (refine wpList_store_row rfl 84 (.tmp 4) (.tmp 108) rfl w.heap.size #[.int .i64 (nm : Int), .int .i64 2, .int .u64 0, .slice B v cB, .int .i64 (k : Int)] rfl rfl 84 _ HbA4.out ?c1 ?c2 ?c3 ?_))
  case c1 => kernel_rfl
  case c2 => rfl
  case c3 => simp [Value.oneCell']
  refine bodyPost_ret (results_cell_row3 rfl _ _ w.heap.size _ _ (0, 0) _ rfl (setRow_heap _ _ _ _ _ _ HbA4.out) Try.underlying84 rfl (by kernel_rfl)) rfl ?_
  have hge : ∀ k', w.heap.size + 2 ≤ k' → ((w4.setCell ⟨w.heap.size + 1, 3, none⟩ (.slice B v cB)).setRow w.heap.size #[.int .i64 (nm : Int), .int .i64 2, .int .u64 0, .slice B v cB, .int .i64 (k : Int)]).heap[k']? = w4.heap[k']? := fun k' hk' => by
    rw [heap_setRow_other _ _ _ _ (by omega), heap_setCell_other _ _ _ _ (by simp; omega)]
  have hbB : ∀ ad, B = some ad → w.heap.size + 2 ≤ ad.block := fun ad hB => by
    have := (Ho4.out.lt ad.block (by subst hB; rfl)).1
    rw [HW2s.out] at this
    exact this
  refine ⟨B, cB, ret_field rfl (by push_cast; omega), HsB.out.of_heap fun ad hB => hge _ (hbB ad hB), fun ad hB => ?_, ?_⟩
  · obtain ⟨cs, fr, h⟩ := HtB.out ad hB
    exact ⟨cs, fr, (hge _ (hbB ad hB)).trans h⟩
  · exact Below.setRow' ((HW2b.out.trans (HbW.out.mono (by rw [HW2s.out]; omega))).setCell (p := ⟨w.heap.size + 1, 3, none⟩) (by simp) _) (Nat.le_refl _) _
theorem Try.info84 : (Try.prog.info? 84).map (fun i => (i.zero, i.size, i.bytes)) = some (some fz, 5, 56) := by kernel_rfl

set_option maxHeartbeats 1600000 in
set_option maxRecDepth 4000 in
theorem rfield_fixed (A : Option Addr) (n c : Nat) (bs : List Nat) (k : Nat) (w : World) (hb : Sl w A n c (nats .u8 bs)) (hbs : ∀ x ∈ bs, x < 256) (hk : k ≤ n) (hn : n ≤ 1000000000000) (q a : Nat) (hv : varS bs k = (q, a, 0)) (hq : q < 18446744073709551616)
    (nm wr s : Nat) (hnm : q / 8 = nm) (hwr : q % 8 = wr) (h1 : 1 ≤ nm) (h2 : nm ≤ 536870911) (ha : a ≤ 10) (hw : (wr = 1 ∧ s = 8) ∨ (wr = 5 ∧ s = 4)) (hks : k + a + s ≤ n) :
    Calls Try.prog 39 #[.slice A n c, .int .i64 (k : Int)] w fun e w' => e = .returned (.tuple #[.agg #[.int .i64 (nm : Int), .int .i64 (wr : Int), .int .u64 ((leS ((bs.drop (k + a)).take s) : Nat) : Int), .slice none 0 0, .int .i64 (k : Int)], .int .i64 ((k + (a + s) : Nat) : Int), .int .i64 0]) ∧ Below w.heap.size w w' := by
  obtain ⟨j0, hj, hy0, hy1, _⟩ := info_parts Try.info84
  have e7 := and_7 q hq
  rw [hwr] at e7
  have ed : (q : Int) / 8 = (nm : Int) := by omega
  obtain ⟨i0, hi, hz0, hz1, hz2⟩ := info_parts Try.info5
  have hlen := hb.len
  rw [nats_length] at hlen
  have hs8 : s ≤ 8 ∧ 0 < s := by omega
  have hpl : ((bs.drop (k + a)).take s).length = s := by rw [List.length_take, List.length_drop]; omega
  have hpb : ∀ x ∈ (bs.drop (k + a)).take s, x < 256 := fun x hx => hbs x (List.mem_of_mem_drop (List.mem_of_mem_take hx))
  obtain ⟨b, off, rfl, hbw, hcell0⟩ := hb.at_ (by omega)
  have hcell : ∀ i, i < s → w.cell? ⟨b, off + (k + a) + i, none⟩ = some (.int .u8 ((((bs.drop (k + a)).take s).getD i 0 : Nat) : Int)) := fun i hi => by
    have := hcell0 (k + a + i) (by omega)
    rw [nats_getD _ _ _ (by omega), ← Nat.add_assoc] at this
    rw [this]
    congr 3
    simp [hi]
  have hle := hb.le
  have hmax := hb.max
  unfold maxLen at hmax
  generalize (bs.drop (k + a)).take s = ps at hcell hpl hpb ⊢
  have Hcell := Lib.hid hcell
  have Hpl := Lib.hid hpl
  have Hpb := Lib.hid hpb
  clear hi hz0 hz1 hz2 hcell hcell0 hpl hpb hlen
  have Hv := Lib.hid hv
  clear hv hq hnm hwr
  rcases hw with ⟨rfl, rfl⟩ | ⟨rfl, rfl⟩
  · go_enter Try.func39, Try.ntmps39
    go_wp2_with fail
    refine (varr _ n c bs k _ (hb.keep ((Below.refl _ _).alloc (Nat.le_refl _) _)) hbs (by omega) (by omega)).mono ?_
    rintro e w1 ⟨rfl, rfl⟩
    rw [Hv.out]
    unfold varV
    go_wp2_with fail
    have bA := heap_alloc2_old w (.cells #[.int .i64 0, .int .i64 0, .int .u64 0, .slice none 0 0, .int .i64 0] 84) (.cells #[.int .i64 (nm : Int), .int .i64 1, .int .u64 0, .slice none 0 0, .int .i64 (k : Int)] 84)
    have bB := heap_alloc2_new w (.cells #[.int .i64 0, .int .i64 0, .int .u64 0, .slice none 0 0, .int .i64 0] 84) (.cells #[.int .i64 (nm : Int), .int .i64 1, .int .u64 0, .slice none 0 0, .int .i64 (k : Int)] 84)
    have hb0 : Below w.heap.size w ((w.alloc (.cells #[.int .i64 0, .int .i64 0, .int .u64 0, .slice none 0 0, .int .i64 0] 84)).alloc (.cells #[.int .i64 (nm : Int), .int .i64 1, .int .u64 0, .slice none 0 0, .int .i64 (k : Int)] 84)) := ((Below.refl _ _).alloc (Nat.le_refl _) _).alloc (by simp) _
    have HbA := Lib.hid bA
    have HbB := Lib.hid bB
    have Hb0 := Lib.hid hb0
    clear bA bB hb0
    go_loopw [18] (fun iv wr => ∃ (v : Int) (r : Nat), v + 1 = r ∧ r ≤ 8 ∧ iv = .int .i64 v ∧ wr.heap[w.heap.size + 1]? = some (.cells #[.int .i64 (nm : Int), .int .i64 1, .int .u64 ((leS (ps.drop r) : Nat) : Int), .slice none 0 0, .int .i64 (k : Int)] 84 (0, 0)) ∧ wr.heap[w.heap.size]? = some (.cells #[.int .i64 0, .int .i64 0, .int .u64 0, .slice none 0 0, .int .i64 0] 84 (0, 0)) ∧ Below w.heap.size w wr) (fun iv _ => (intOf iv + 1).toNat)
    case atStart => exact ⟨8 - 1, 8, by omega, by omega, rfl, by rw [List.drop_eq_nil_of_le (by rw [Hpl.out]; omega)]; exact HbB.out, HbA.out, Hb0.out⟩
    case round =>
      obtain ⟨v, r, hv1, hr8, rfl, kB, kA, hbel⟩ := hrel
      have HkB := Lib.hid kB
      have HkA := Lib.hid kA
      have Hbel := Lib.hid hbel
      by_cases hlt : 0 ≤ v
      · obtain ⟨i, rfl⟩ : ∃ i : Nat, v = i := ⟨v.toNat, by omega⟩
        obtain rfl : r = i + 1 := by omega
        have hcl : wr.cell? ⟨b, off + (k + a + i), none⟩ = some (.int .u8 ((ps.getD i 0 : Nat) : Int)) := by
          have := (hbel.cell (p := ⟨b, off + (k + a) + i, none⟩) hbw).trans (Hcell.out i (by omega))
          rw [Nat.add_assoc off] at this
          exact this
        have hpl := Hpl.out
        have hst : bits .or .u64 (IntKind.u64.wrap (((leS (ps.drop (i + 1)) : Nat) : Int) * 256)) ((ps.getD i 0 : Nat) : Int) = ((leS (ps.drop i) : Nat) : Int) := by
          have hlt7 := leS_lt (ps.drop (i + 1)) (fun y hy => Hpb.out y (List.mem_of_mem_drop hy))
          have hp7 : 256 ^ (ps.drop (i + 1)).length ≤ 256 ^ 7 := Nat.pow_le_pow_right (by decide) (by rw [List.length_drop]; omega)
          rw [show (256 : Nat) ^ 7 = 72057594037927936 from rfl] at hp7
          rw [or_low _ _ (by omega) (Hpb.out _ (by rw [getD_eq _ _ (by omega)]; exact List.getElem_mem _)), getD_eq _ _ (by omega), show ps.drop i = ps[i] :: ps.drop (i + 1) from List.drop_eq_getElem_cons (by omega)]
          rfl
        have hx : ps.getD i 0 < 256 := Hpb.out _ (by rw [getD_eq _ _ (by omega)]; exact List.getElem_mem _)
        have cU : wr.cell? ⟨w.heap.size + 1, 2, none⟩ = some (.int .u64 ((leS (ps.drop (i + 1)) : Nat) : Int)) := by rw [cell_of_row _ _ _ _ _ _ kB]; rfl
        have fU : wr.frozen? ⟨w.heap.size + 1, 2, none⟩ = false := frozen_of_row _ _ _ _ _ kB
        generalize ps.getD i 0 = x at *
        generalize leS (ps.drop (i + 1)) = U at *
        have Hst := Lib.hid hst
        have e1 : IntKind.i64.wrap ((k : Int) + (a : Int) + (i : Int)) = (k : Int) + (a : Int) + (i : Int) := IntWalk.i64_in _ (by omega)
        have e2 : (0 : Int) ≤ (k : Int) + (a : Int) + (i : Int) := by omega
        have e3 : ((k : Int) + (a : Int) + (i : Int)).toNat = k + a + i := by omega
        clear hst hpl kB kA hbel hv1
        go_wp2_with fail
        go_region
        go_wp2_with fail
        clear e1 e2 e3
        refine ⟨⟨(i : Int) - 1, i, by omega, by omega, rfl, ?_, ?_, ?_⟩, by simp only [intOf]; omega⟩
        · rw [heap_drew, Hst.out]; exact heap_setCell_same _ _ _ _ _ _ HkB.out
        · rw [heap_drew]; exact (heap_setCell_other _ _ _ _ (by simp)).trans HkA.out
        · exact (Hbel.out.setCell (p := ⟨w.heap.size + 1, 2, none⟩) (by simp) _).drew
      · obtain rfl : v = -1 := by omega
        obtain rfl : r = 0 := by omega
        rw [List.drop_zero] at kB
        clear HkB
        have HkB := Lib.hid kB
        clear kA kB hbel hv1
        go_wp2_with (first
          | (refine wpList_load_row rfl 84 (.tmp 10) rfl (w.heap.size + 1) rfl 84 _ (0, 0) _ HkB.out Try.underlying84 rfl (by kernel_rfl) ?_)
          | (refine wpList_store_row rfl 84 (.tmp 4) (.tmp 140) rfl w.heap.size #[.int .i64 (nm : Int), .int .i64 1, .int .u64 ((leS ps : Nat) : Int), .slice none 0 0, .int .i64 (k : Int)] rfl rfl 84 _ HkA.out ?c1 ?c2 ?c3 ?_))
        case c3 => simp [Value.oneCell']
        refine bodyPost_ret (results_cell_row3 rfl _ _ w.heap.size _ _ (0, 0) _ rfl (setRow_heap _ _ _ _ _ _ HkA.out) Try.underlying84 rfl (by kernel_rfl)) rfl ?_
        exact ⟨ret_field rfl (by push_cast; omega), Below.setRow' Hbel.out (Nat.le_refl _) _⟩
  · go_enter Try.func39, Try.ntmps39
    go_wp2_with fail
    refine (varr _ n c bs k _ (hb.keep ((Below.refl _ _).alloc (Nat.le_refl _) _)) hbs (by omega) (by omega)).mono ?_
    rintro e w1 ⟨rfl, rfl⟩
    rw [Hv.out]
    unfold varV
    go_wp2_with fail
    have bA := heap_alloc2_old w (.cells #[.int .i64 0, .int .i64 0, .int .u64 0, .slice none 0 0, .int .i64 0] 84) (.cells #[.int .i64 (nm : Int), .int .i64 5, .int .u64 0, .slice none 0 0, .int .i64 (k : Int)] 84)
    have bB := heap_alloc2_new w (.cells #[.int .i64 0, .int .i64 0, .int .u64 0, .slice none 0 0, .int .i64 0] 84) (.cells #[.int .i64 (nm : Int), .int .i64 5, .int .u64 0, .slice none 0 0, .int .i64 (k : Int)] 84)
    have hb0 : Below w.heap.size w ((w.alloc (.cells #[.int .i64 0, .int .i64 0, .int .u64 0, .slice none 0 0, .int .i64 0] 84)).alloc (.cells #[.int .i64 (nm : Int), .int .i64 5, .int .u64 0, .slice none 0 0, .int .i64 (k : Int)] 84)) := ((Below.refl _ _).alloc (Nat.le_refl _) _).alloc (by simp) _
    have HbA := Lib.hid bA
    have HbB := Lib.hid bB
    have Hb0 := Lib.hid hb0
    clear bA bB hb0
    go_loopw [18] (fun iv wr => ∃ (v : Int) (r : Nat), v + 1 = r ∧ r ≤ 4 ∧ iv = .int .i64 v ∧ wr.heap[w.heap.size + 1]? = some (.cells #[.int .i64 (nm : Int), .int .i64 5, .int .u64 ((leS (ps.drop r) : Nat) : Int), .slice none 0 0, .int .i64 (k : Int)] 84 (0, 0)) ∧ wr.heap[w.heap.size]? = some (.cells #[.int .i64 0, .int .i64 0, .int .u64 0, .slice none 0 0, .int .i64 0] 84 (0, 0)) ∧ Below w.heap.size w wr) (fun iv _ => (intOf iv + 1).toNat)
    case atStart => exact ⟨4 - 1, 4, by omega, by omega, rfl, by rw [List.drop_eq_nil_of_le (by rw [Hpl.out]; omega)]; exact HbB.out, HbA.out, Hb0.out⟩
    case round =>
      obtain ⟨v, r, hv1, hr8, rfl, kB, kA, hbel⟩ := hrel
      have HkB := Lib.hid kB
      have HkA := Lib.hid kA
      have Hbel := Lib.hid hbel
      by_cases hlt : 0 ≤ v
      · obtain ⟨i, rfl⟩ : ∃ i : Nat, v = i := ⟨v.toNat, by omega⟩
        obtain rfl : r = i + 1 := by omega
        have hcl : wr.cell? ⟨b, off + (k + a + i), none⟩ = some (.int .u8 ((ps.getD i 0 : Nat) : Int)) := by
          have := (hbel.cell (p := ⟨b, off + (k + a) + i, none⟩) hbw).trans (Hcell.out i (by omega))
          rw [Nat.add_assoc off] at this
          exact this
        have hpl := Hpl.out
        have hst : bits .or .u64 (IntKind.u64.wrap (((leS (ps.drop (i + 1)) : Nat) : Int) * 256)) ((ps.getD i 0 : Nat) : Int) = ((leS (ps.drop i) : Nat) : Int) := by
          have hlt7 := leS_lt (ps.drop (i + 1)) (fun y hy => Hpb.out y (List.mem_of_mem_drop hy))
          have hp7 : 256 ^ (ps.drop (i + 1)).length ≤ 256 ^ 7 := Nat.pow_le_pow_right (by decide) (by rw [List.length_drop]; omega)
          rw [show (256 : Nat) ^ 7 = 72057594037927936 from rfl] at hp7
          rw [or_low _ _ (by omega) (Hpb.out _ (by rw [getD_eq _ _ (by omega)]; exact List.getElem_mem _)), getD_eq _ _ (by omega), show ps.drop i = ps[i] :: ps.drop (i + 1) from List.drop_eq_getElem_cons (by omega)]
          rfl
        have hx : ps.getD i 0 < 256 := Hpb.out _ (by rw [getD_eq _ _ (by omega)]; exact List.getElem_mem _)
        have cU : wr.cell? ⟨w.heap.size + 1, 2, none⟩ = some (.int .u64 ((leS (ps.drop (i + 1)) : Nat) : Int)) := by rw [cell_of_row _ _ _ _ _ _ kB]; rfl
        have fU : wr.frozen? ⟨w.heap.size + 1, 2, none⟩ = false := frozen_of_row _ _ _ _ _ kB
        generalize ps.getD i 0 = x at *
        generalize leS (ps.drop (i + 1)) = U at *
        have Hst := Lib.hid hst
        have e1 : IntKind.i64.wrap ((k : Int) + (a : Int) + (i : Int)) = (k : Int) + (a : Int) + (i : Int) := IntWalk.i64_in _ (by omega)
        have e2 : (0 : Int) ≤ (k : Int) + (a : Int) + (i : Int) := by omega
        have e3 : ((k : Int) + (a : Int) + (i : Int)).toNat = k + a + i := by omega
        clear hst hpl kB kA hbel hv1
        go_wp2_with fail
        go_region
        go_wp2_with fail
        clear e1 e2 e3
        refine ⟨⟨(i : Int) - 1, i, by omega, by omega, rfl, ?_, ?_, ?_⟩, by simp only [intOf]; omega⟩
        · rw [heap_drew, Hst.out]; exact heap_setCell_same _ _ _ _ _ _ HkB.out
        · rw [heap_drew]; exact (heap_setCell_other _ _ _ _ (by simp)).trans HkA.out
        · exact (Hbel.out.setCell (p := ⟨w.heap.size + 1, 2, none⟩) (by simp) _).drew
      · obtain rfl : v = -1 := by omega
        obtain rfl : r = 0 := by omega
        rw [List.drop_zero] at kB
        clear HkB
        have HkB := Lib.hid kB
        clear kA kB hbel hv1
        go_wp2_with (first
          | (refine wpList_load_row rfl 84 (.tmp 10) rfl (w.heap.size + 1) rfl 84 _ (0, 0) _ HkB.out Try.underlying84 rfl (by kernel_rfl) ?_)
          | (refine wpList_store_row rfl 84 (.tmp 4) (.tmp 140) rfl w.heap.size #[.int .i64 (nm : Int), .int .i64 5, .int .u64 ((leS ps : Nat) : Int), .slice none 0 0, .int .i64 (k : Int)] rfl rfl 84 _ HkA.out ?d1 ?d2 ?d3 ?_))
        case d3 => simp [Value.oneCell']
        refine bodyPost_ret (results_cell_row3 rfl _ _ w.heap.size _ _ (0, 0) _ rfl (setRow_heap _ _ _ _ _ _ HkA.out) Try.underlying84 rfl (by kernel_rfl)) rfl ?_
        exact ⟨ret_field rfl (by push_cast; omega), Below.setRow' Hbel.out (Nat.le_refl _) _⟩

set_option maxHeartbeats 1600000 in
theorem rfield_p (A : Option Addr) (n c : Nat) (bs : List Nat) (k : Nat) (w : World) (hb : Sl w A n c (nats .u8 bs)) (hbs : ∀ x ∈ bs, x < 256) (hk : k ≤ n) (hn : n ≤ 1000000000000) :
    Calls Try.prog 39 #[.slice A n c, .int .i64 (k : Int)] w fun e w' => ∃ B cB, e = .returned (.tuple #[fldV (fldR (bs.drop k) k).1 B cB, .int .i64 ((if (fldR (bs.drop k) k).2.2 ≠ 0 then 0 else k + (fldR (bs.drop k) k).2.1 : Nat) : Int), .int .i64 ((fldR (bs.drop k) k).2.2 : Int)]) ∧ Txt w' B cB (fldR (bs.drop k) k).1.b ∧ Below w.heap.size w w' := by
  have hlen := hb.len
  rw [nats_length] at hlen
  have v1 := varS_in bs k (by omega)
  have b1 := varR_bd (bs.drop k) 0 0 (by decide) (by decide)
  have z1 := varR_size (bs.drop k) 0 0
  generalize hR : varR (bs.drop k) 0 0 = r at v1 b1 z1
  obtain ⟨q, a, er⟩ := r
  simp only at b1 z1
  have hdl : (bs.drop k).length = n - k := by rw [List.length_drop, hlen]
  unfold fldR
  rw [hR]
  simp only []
  by_cases her : er = 0
  · subst her
    have z1 := z1 rfl
    have v2 := varS_in bs (k + a) (by omega)
    rw [Int.natCast_add] at v2
    have b2 := varR_bd (bs.drop (k + a)) 0 0 (by decide) (by decide)
    have z2 := varR_size (bs.drop (k + a)) 0 0
    have hdd : (bs.drop k).drop a = bs.drop (k + a) := by rw [List.drop_drop]
    have hdl2 : (bs.drop (k + a)).length = n - (k + a) := by rw [List.length_drop, hlen]
    generalize hR2 : varR (bs.drop (k + a)) 0 0 = r2 at v2 b2 z2
    obtain ⟨v, m, er2⟩ := r2
    simp only at b2 z2
    rw [if_neg (by simp), hdd, hR2]
    simp only []
    by_cases hbad : q / 8 < 1 ∨ 536870911 < q / 8
    · rw [if_pos hbad]
      exact (rfield_bad2 A n c bs k w hb hbs hk hn q a v1 b1.1 _ _ rfl rfl hbad).mono fun e w' h => field_no h
    · rw [if_neg hbad]
      have hn1 : 1 ≤ q / 8 := by omega
      have hn2 : q / 8 ≤ 536870911 := by omega
      by_cases k0 : q % 8 = 0
      · rw [if_pos k0]
        by_cases he2 : er2 = 0
        · subst he2
          rw [if_neg (by simp)]
          refine (rfield_var A n c bs k w hb hbs hk hn q a v1 b1.1 _ rfl k0 hn1 hn2 b1.2.1 v m v2 b2.2.1).mono ?_
          rintro e w' ⟨rfl, hbel⟩
          exact ⟨none, 0, rfl, Txt.none_ w', hbel⟩
        · rw [if_pos he2]
          exact (rfield_varbad A n c bs k w hb hbs hk hn q a v1 b1.1 _ _ rfl rfl (.inl k0) hn1 hn2 b1.2.1 v m er2 v2 (by simp; omega) (by omega)).mono fun e w' h => by dsimp only; rw [if_pos he2]; exact field_no h
      · rw [if_neg k0]
        by_cases k2 : q % 8 = 2
        · rw [if_pos k2]
          by_cases he2 : er2 = 0
          · subst he2
            have z2 := z2 rfl
            rw [if_neg (by simp), List.drop_drop]
            by_cases hs : (bs.drop (k + a + m)).length < v
            · rw [if_pos hs]
              rw [List.length_drop] at hs
              exact (rfield_textshort A n c bs k w hb hbs hk hn q a v1 b1.1 _ rfl k2 hn1 hn2 b1.2.1 v m v2 (by omega) (by omega)).mono fun e w' h => field_no h
            · rw [if_neg hs]
              rw [List.length_drop] at hs
              refine (rfield_text A n c bs k w hb hbs hk hn q a v1 b1.1 _ rfl k2 hn1 hn2 b1.2.1 v m v2 (by omega) (by omega)).mono ?_
              rintro e w' ⟨B, cB, rfl, hsl, ht, hbel⟩
              have hl : ((bs.drop (k + a + m)).take v).length = v := by rw [List.length_take, List.length_drop]; omega
              refine ⟨B, cB, ?_, ⟨?_, ht⟩, hbel⟩
              · unfold fldV
                simp only [hl]
                rfl
              · simp only [hl]
                exact hsl
          · rw [if_pos he2]
            exact (rfield_varbad A n c bs k w hb hbs hk hn q a v1 b1.1 _ _ rfl rfl (.inr k2) hn1 hn2 b1.2.1 v m er2 v2 (by simp; omega) (by omega)).mono fun e w' h => by dsimp only; rw [if_pos he2]; exact field_no h
        · rw [if_neg k2]
          by_cases k1 : q % 8 = 1
          · rw [if_pos k1, hdl2]
            by_cases hs : n - (k + a) < 8
            · rw [if_pos hs]
              exact (rfield_short A n c bs k w hb hbs hk hn q a v1 b1.1 _ _ rfl k1 hn1 hn2 b1.2.1 (by omega) (.inl ⟨rfl, by omega⟩)).mono fun e w' h => field_no h
            · rw [if_neg hs]
              refine (rfield_fixed A n c bs k w hb hbs hk hn q a v1 b1.1 _ 1 8 rfl k1 hn1 hn2 b1.2.1 (.inl ⟨rfl, rfl⟩) (by omega)).mono ?_
              rintro e w' ⟨rfl, hbel⟩
              exact ⟨none, 0, rfl, Txt.none_ w', hbel⟩
          · rw [if_neg k1]
            by_cases k5 : q % 8 = 5
            · rw [if_pos k5, hdl2]
              by_cases hs : n - (k + a) < 4
              · rw [if_pos hs]
                exact (rfield_short A n c bs k w hb hbs hk hn q a v1 b1.1 _ _ rfl k5 hn1 hn2 b1.2.1 (by omega) (.inr ⟨rfl, by omega⟩)).mono fun e w' h => field_no h
              · rw [if_neg hs]
                refine (rfield_fixed A n c bs k w hb hbs hk hn q a v1 b1.1 _ 5 4 rfl k5 hn1 hn2 b1.2.1 (.inr ⟨rfl, rfl⟩) (by omega)).mono ?_
                rintro e w' ⟨rfl, hbel⟩
                exact ⟨none, 0, rfl, Txt.none_ w', hbel⟩
            · rw [if_neg k5]
              exact (rfield_wire A n c bs k w hb hbs hk hn q a v1 b1.1 _ _ rfl rfl (by omega) hn1 hn2 b1.2.1).mono fun e w' h => field_no h
  · rw [if_pos her]
    exact (rfield_bad1 A n c bs k er w hb hbs hk hn q a v1 (by simp; omega) (by omega)).mono fun e w' h => by dsimp only; rw [if_pos her]; exact field_no h
end Go.Proofs.Ytihclbiohljmlaa
