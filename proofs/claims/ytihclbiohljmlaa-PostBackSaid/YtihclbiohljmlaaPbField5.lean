/- pb.field: a number of eight bytes, of four. -/
import Derived.Test.YtihclbiohljmlaaPbField4
namespace Go.Proofs.Ytihclbiohljmlaa
open Go.RowKit
open PackMath
set_option linter.unusedVariables false

theorem leS_lt (l : List Nat) (h : ∀ x ∈ l, x < 256) : leS l < 256 ^ l.length := by
  induction l with
  | nil => decide
  | cons x l ih =>
    have h1 := ih fun y hy => h y (by simp [hy])
    have h2 := h x (by simp)
    rw [List.length_cons, Nat.pow_succ]
    show x + 256 * leS l < _
    omega
theorem leS_snoc (l : List Nat) (x : Nat) : leS (l ++ [x]) = leS l + x * 256 ^ l.length := by
  induction l with
  | nil => simp [leS]
  | cons y l ih =>
    show y + 256 * leS (l ++ [x]) = y + 256 * leS l + x * 256 ^ (l.length + 1)
    rw [ih, Nat.pow_succ, Nat.mul_add, ← Nat.add_assoc, Nat.mul_comm (256 ^ l.length) 256, Nat.mul_left_comm]
theorem or_shift (acc d e : Nat) (h1 : acc ||| d * 2 ^ e = acc + d * 2 ^ e) (h2 : acc + d * 2 ^ e < 18446744073709551616) : bits .or .u64 (acc : Int) (IntKind.u64.wrap ((d : Int) * 2 ^ e)) = ((acc + d * 2 ^ e : Nat) : Int) := by
  have e2 : (d : Int) * 2 ^ e = ((d * 2 ^ e : Nat) : Int) := by simp
  rw [e2]
  generalize d * 2 ^ e = m at *
  have e3 : IntKind.u64.wrap (m : Int) = (m : Int) := by rw [IntKind.wrap_u64]; omega
  rw [e3, bits_or_u64 _ _ (by omega) (by omega), h1]
theorem le_step (l : List Nat) (x : Nat) (h : ∀ y ∈ l, y < 256) (hx : x < 256) (hl : l.length < 8) :
    bits .or .u64 (leS l : Int) (IntKind.u64.wrap ((x : Int) * 2 ^ (8 * l.length))) = ((leS (l ++ [x]) : Nat) : Int) := by
  have h1 := leS_lt l h
  have e : 256 ^ l.length = 2 ^ (8 * l.length) := by rw [show 256 = 2 ^ 8 from rfl, ← Nat.pow_mul]
  have h2 := Nat.two_pow_add_eq_or_of_lt (i := 8 * l.length) (b := leS l) (by rw [← e]; exact h1) x
  have h3 : 2 ^ (8 * l.length + 8) ≤ 2 ^ 64 := Nat.pow_le_pow_right (by decide) (by omega)
  have h4 : x * 2 ^ (8 * l.length) ≤ 255 * 2 ^ (8 * l.length) := Nat.mul_le_mul_right _ (by omega)
  rw [Nat.pow_add, show (2 : Nat) ^ 8 = 256 from rfl, show (2 : Nat) ^ 64 = 18446744073709551616 from rfl] at h3
  rw [e] at h1
  rw [leS_snoc, e]
  refine or_shift _ _ _ ?_ ?_
  · rw [Nat.or_comm, Nat.mul_comm x, ← h2, Nat.add_comm]
  · omega

set_option maxHeartbeats 1600000 in
set_option maxRecDepth 4000 in
theorem field_fixed (A : Option Addr) (n c : Nat) (bs : List Nat) (k : Nat) (w : World) (hb : Sl w A n c (nats .u8 bs)) (hbs : ∀ x ∈ bs, x < 256) (hk : k ≤ n) (hn : n ≤ 1000000000000) (q a : Nat) (hv : varS bs k = (q, a, 0)) (hq : q < 18446744073709551616)
    (nm wr s : Nat) (hnm : q / 8 = nm) (hwr : q % 8 = wr) (h1 : 1 ≤ nm) (h2 : nm ≤ 536870911) (ha : a ≤ 10) (hw : (wr = 1 ∧ s = 8) ∨ (wr = 5 ∧ s = 4)) (hks : k + a + s ≤ n) :
    Calls Try.prog 37 #[.slice A n c, .int .i64 (k : Int)] w fun e w' => e = .returned (.tuple #[.agg #[.int .i64 (nm : Int), .int .i64 (wr : Int), .int .u64 ((leS ((bs.drop (k + a)).take s) : Nat) : Int), .slice none 0 0, .int .i64 (k : Int)], .int .i64 ((a + s : Nat) : Int), .int .i64 0]) ∧ Below w.heap.size w w' := by
  have e7 := and_7 q hq
  rw [hwr] at e7
  have ed : (q : Int) / 8 = (nm : Int) := by omega
  obtain ⟨i0, hi, hz0, hz1, hz2⟩ := info_parts Try.info5
  have hlen := hb.len
  rw [nats_length] at hlen
  have hs8 : s ≤ 8 ∧ 0 < s := by omega
  have hpl : ((bs.drop (k + a)).take s).length = s := by rw [List.length_take, List.length_drop]; omega
  have hpb : ∀ x ∈ (bs.drop (k + a)).take s, x < 256 := fun x hx => hbs x (List.mem_of_mem_drop (List.mem_of_mem_take hx))
  obtain ⟨b, off, rfl, hbw, hcell0⟩ := hb.at_ (by omega)
  have hcell : ∀ i, i < s → w.cell? ⟨b, off + (k + a) + i, none⟩ = some (.int .u8 ((((bs.drop (k + a)).take s).getD i 0 : Nat) : Int)) := fun i hi => by
    have := hcell0 (k + a + i) (by omega)
    rw [nats_getD _ _ _ (by omega), ← Nat.add_assoc] at this
    rw [this]
    congr 3
    simp [hi]
  have hle := hb.le
  have hmax := hb.max
  unfold maxLen at hmax
  generalize (bs.drop (k + a)).take s = ps at hcell hpl hpb ⊢
  have Hcell := Lib.hid hcell
  have Hpl := Lib.hid hpl
  have Hpb := Lib.hid hpb
  clear hi hz0 hz1 hz2 hcell hcell0 hpl hpb hlen
  have Hv := Lib.hid hv
  clear hv hq hnm hwr
  rcases hw with ⟨rfl, rfl⟩ | ⟨rfl, rfl⟩
  · go_enter Try.func37, Try.ntmps37
    go_wp2_with fail
    refine (varp _ n c bs k _ (hb.keep ((Below.refl _ _).alloc (Nat.le_refl _) _)) hbs (by omega) (by omega)).mono ?_
    rintro e w1 ⟨rfl, rfl⟩
    rw [Hv.out]
    unfold varV
    go_wp2_with fail
    have bA := heap_alloc2_old w (.cells #[.int .i64 0, .int .i64 0, .int .u64 0, .slice none 0 0, .int .i64 0] 57) (.cells #[.int .i64 (nm : Int), .int .i64 1, .int .u64 0, .slice none 0 0, .int .i64 (k : Int)] 57)
    have bB := heap_alloc2_new w (.cells #[.int .i64 0, .int .i64 0, .int .u64 0, .slice none 0 0, .int .i64 0] 57) (.cells #[.int .i64 (nm : Int), .int .i64 1, .int .u64 0, .slice none 0 0, .int .i64 (k : Int)] 57)
    have hb0 : Below w.heap.size w ((w.alloc (.cells #[.int .i64 0, .int .i64 0, .int .u64 0, .slice none 0 0, .int .i64 0] 57)).alloc (.cells #[.int .i64 (nm : Int), .int .i64 1, .int .u64 0, .slice none 0 0, .int .i64 (k : Int)] 57)) := ((Below.refl _ _).alloc (Nat.le_refl _) _).alloc (by simp) _
    have HbA := Lib.hid bA
    have HbB := Lib.hid bB
    have Hb0 := Lib.hid hb0
    clear bA bB hb0
    go_loopw [132] (fun iv wr => ∃ i : Nat, i ≤ 8 ∧ iv = .int .i64 (i : Int) ∧ wr.heap[w.heap.size + 1]? = some (.cells #[.int .i64 (nm : Int), .int .i64 1, .int .u64 ((leS (ps.take i) : Nat) : Int), .slice none 0 0, .int .i64 (k : Int)] 57 (0, 0)) ∧ wr.heap[w.heap.size]? = some (.cells #[.int .i64 0, .int .i64 0, .int .u64 0, .slice none 0 0, .int .i64 0] 57 (0, 0)) ∧ Below w.heap.size w wr) (fun iv _ => 8 - (intOf iv).toNat)
    case atStart => exact ⟨0, by omega, rfl, HbB.out, HbA.out, Hb0.out⟩
    case round =>
      obtain ⟨i, hi, rfl, kB, kA, hbel⟩ := hrel
      have HkB := Lib.hid kB
      have HkA := Lib.hid kA
      have Hbel := Lib.hid hbel
      by_cases hlt : i < 8
      · have hcl : wr.cell? ⟨b, off + (k + a) + i, none⟩ = some (.int .u8 ((ps.getD i 0 : Nat) : Int)) := (hbel.cell (p := ⟨b, off + (k + a) + i, none⟩) hbw).trans (Hcell.out i hlt)
        have hpl := Hpl.out
        have hst := le_step (ps.take i) (ps.getD i 0) (fun y hy => Hpb.out y (List.mem_of_mem_take hy)) (Hpb.out _ (by rw [getD_eq _ _ (by omega)]; exact List.getElem_mem _)) (by rw [List.length_take]; omega)
        rw [show (ps.take i).length = i from by rw [List.length_take]; omega, show ps.take i ++ [ps.getD i 0] = ps.take (i + 1) from by rw [getD_eq _ _ (by omega), List.take_succ_eq_append_getElem]] at hst
        have hx : ps.getD i 0 < 256 := Hpb.out _ (by rw [getD_eq _ _ (by omega)]; exact List.getElem_mem _)
        have cU : wr.cell? ⟨w.heap.size + 1, 2, none⟩ = some (.int .u64 ((leS (ps.take i) : Nat) : Int)) := by rw [cell_of_row _ _ _ _ _ _ kB]; rfl
        have fU : wr.frozen? ⟨w.heap.size + 1, 2, none⟩ = false := frozen_of_row _ _ _ _ _ kB
        generalize ps.getD i 0 = x at *
        generalize leS (ps.take i) = U at *
        have Hst := Lib.hid hst
        clear hst hpl kB kA hbel
        go_wp2_with fail
        go_region
        go_wp2_with fail
        refine ⟨⟨i + 1, by omega, by go_num, ?_, ?_, ?_⟩, by simp only [intOf]; omega⟩
        · rw [heap_drew, Hst.out]; exact heap_setCell_same _ _ _ _ _ _ HkB.out
        · rw [heap_drew]; exact (heap_setCell_other _ _ _ _ (by simp)).trans HkA.out
        · exact (Hbel.out.setCell (p := ⟨w.heap.size + 1, 2, none⟩) (by simp) _).drew
      · obtain rfl : i = 8 := by omega
        rw [List.take_of_length_le (by have := Hpl.out; omega)] at kB
        clear HkB
        have HkB := Lib.hid kB
        clear kA kB hbel
        go_wp2_with (first
          | (refine wpList_load_row rfl 57 (.tmp 10) rfl (w.heap.size + 1) rfl 57 _ (0, 0) _ HkB.out Try.underlying57 rfl (by kernel_rfl) ?_)
          | (refine wpList_store_row rfl 57 (.tmp 4) (.tmp 147) rfl w.heap.size #[.int .i64 (nm : Int), .int .i64 1, .int .u64 ((leS ps : Nat) : Int), .slice none 0 0, .int .i64 (k : Int)] rfl rfl 57 _ HkA.out ?c1 ?c2 ?c3 ?_))
        case c1 => kernel_rfl
        case c2 => rfl
        case c3 => simp [Value.oneCell']
        refine bodyPost_ret (results_cell_row3 rfl _ _ w.heap.size _ _ (0, 0) _ rfl (setRow_heap _ _ _ _ _ _ HkA.out) Try.underlying57 rfl (by kernel_rfl)) rfl ?_
        exact ⟨ret_field rfl (by push_cast; rfl), Below.setRow' Hbel.out (Nat.le_refl _) _⟩
  · go_enter Try.func37, Try.ntmps37
    go_wp2_with fail
    refine (varp _ n c bs k _ (hb.keep ((Below.refl _ _).alloc (Nat.le_refl _) _)) hbs (by omega) (by omega)).mono ?_
    rintro e w1 ⟨rfl, rfl⟩
    rw [Hv.out]
    unfold varV
    go_wp2_with fail
    have bA := heap_alloc2_old w (.cells #[.int .i64 0, .int .i64 0, .int .u64 0, .slice none 0 0, .int .i64 0] 57) (.cells #[.int .i64 (nm : Int), .int .i64 5, .int .u64 0, .slice none 0 0, .int .i64 (k : Int)] 57)
    have bB := heap_alloc2_new w (.cells #[.int .i64 0, .int .i64 0, .int .u64 0, .slice none 0 0, .int .i64 0] 57) (.cells #[.int .i64 (nm : Int), .int .i64 5, .int .u64 0, .slice none 0 0, .int .i64 (k : Int)] 57)
    have hb0 : Below w.heap.size w ((w.alloc (.cells #[.int .i64 0, .int .i64 0, .int .u64 0, .slice none 0 0, .int .i64 0] 57)).alloc (.cells #[.int .i64 (nm : Int), .int .i64 5, .int .u64 0, .slice none 0 0, .int .i64 (k : Int)] 57)) := ((Below.refl _ _).alloc (Nat.le_refl _) _).alloc (by simp) _
    have HbA := Lib.hid bA
    have HbB := Lib.hid bB
    have Hb0 := Lib.hid hb0
    clear bA bB hb0
    go_loopw [132] (fun iv wr => ∃ i : Nat, i ≤ 4 ∧ iv = .int .i64 (i : Int) ∧ wr.heap[w.heap.size + 1]? = some (.cells #[.int .i64 (nm : Int), .int .i64 5, .int .u64 ((leS (ps.take i) : Nat) : Int), .slice none 0 0, .int .i64 (k : Int)] 57 (0, 0)) ∧ wr.heap[w.heap.size]? = some (.cells #[.int .i64 0, .int .i64 0, .int .u64 0, .slice none 0 0, .int .i64 0] 57 (0, 0)) ∧ Below w.heap.size w wr) (fun iv _ => 4 - (intOf iv).toNat)
    case atStart => exact ⟨0, by omega, rfl, HbB.out, HbA.out, Hb0.out⟩
    case round =>
      obtain ⟨i, hi, rfl, kB, kA, hbel⟩ := hrel
      have HkB := Lib.hid kB
      have HkA := Lib.hid kA
      have Hbel := Lib.hid hbel
      by_cases hlt : i < 4
      · have hcl : wr.cell? ⟨b, off + (k + a) + i, none⟩ = some (.int .u8 ((ps.getD i 0 : Nat) : Int)) := (hbel.cell (p := ⟨b, off + (k + a) + i, none⟩) hbw).trans (Hcell.out i hlt)
        have hpl := Hpl.out
        have hst := le_step (ps.take i) (ps.getD i 0) (fun y hy => Hpb.out y (List.mem_of_mem_take hy)) (Hpb.out _ (by rw [getD_eq _ _ (by omega)]; exact List.getElem_mem _)) (by rw [List.length_take]; omega)
        rw [show (ps.take i).length = i from by rw [List.length_take]; omega, show ps.take i ++ [ps.getD i 0] = ps.take (i + 1) from by rw [getD_eq _ _ (by omega), List.take_succ_eq_append_getElem]] at hst
        have hx : ps.getD i 0 < 256 := Hpb.out _ (by rw [getD_eq _ _ (by omega)]; exact List.getElem_mem _)
        have cU : wr.cell? ⟨w.heap.size + 1, 2, none⟩ = some (.int .u64 ((leS (ps.take i) : Nat) : Int)) := by rw [cell_of_row _ _ _ _ _ _ kB]; rfl
        have fU : wr.frozen? ⟨w.heap.size + 1, 2, none⟩ = false := frozen_of_row _ _ _ _ _ kB
        generalize ps.getD i 0 = x at *
        generalize leS (ps.take i) = U at *
        have Hst := Lib.hid hst
        clear hst hpl kB kA hbel
        go_wp2_with fail
        go_region
        go_wp2_with fail
        refine ⟨⟨i + 1, by omega, by go_num, ?_, ?_, ?_⟩, by simp only [intOf]; omega⟩
        · rw [heap_drew, Hst.out]; exact heap_setCell_same _ _ _ _ _ _ HkB.out
        · rw [heap_drew]; exact (heap_setCell_other _ _ _ _ (by simp)).trans HkA.out
        · exact (Hbel.out.setCell (p := ⟨w.heap.size + 1, 2, none⟩) (by simp) _).drew
      · obtain rfl : i = 4 := by omega
        rw [List.take_of_length_le (by have := Hpl.out; omega)] at kB
        clear HkB
        have HkB := Lib.hid kB
        clear kA kB hbel
        go_wp2_with (first
          | (refine wpList_load_row rfl 57 (.tmp 10) rfl (w.heap.size + 1) rfl 57 _ (0, 0) _ HkB.out Try.underlying57 rfl (by kernel_rfl) ?_)
          | (refine wpList_store_row rfl 57 (.tmp 4) (.tmp 147) rfl w.heap.size #[.int .i64 (nm : Int), .int .i64 5, .int .u64 ((leS ps : Nat) : Int), .slice none 0 0, .int .i64 (k : Int)] rfl rfl 57 _ HkA.out ?c1 ?c2 ?c3 ?_))
        case c1 => kernel_rfl
        case c2 => rfl
        case c3 => simp [Value.oneCell']
        refine bodyPost_ret (results_cell_row3 rfl _ _ w.heap.size _ _ (0, 0) _ rfl (setRow_heap _ _ _ _ _ _ HkA.out) Try.underlying57 rfl (by kernel_rfl)) rfl ?_
        exact ⟨ret_field rfl (by push_cast; rfl), Below.setRow' Hbel.out (Nat.le_refl _) _⟩
end Go.Proofs.Ytihclbiohljmlaa
