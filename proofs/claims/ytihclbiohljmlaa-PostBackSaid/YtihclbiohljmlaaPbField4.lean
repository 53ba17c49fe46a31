/- pb.field: a text. -/
import Derived.Test.YtihclbiohljmlaaPbField3
import Derived.Test.YtihclbiohljmlaaOps5
namespace Go.Proofs.Ytihclbiohljmlaa
open Go.RowKit
set_option linter.unusedVariables false

/-- A slice's block holds cells of one type. -/
def Typ (w : World) (A : Option Addr) (e : TypeId) : Prop := ∀ ad, A = some ad → ∃ cs fr, w.heap[ad.block]? = some (.cells cs e fr)
theorem Typ.of_own {w : World} {base : Nat} {e : TypeId} {A : Option Addr} {n m c size : Nat} {xs : List Value} (h : w.ownsRow base e size (.slice A m c) n xs) : Typ w A e := by
  intro ad hA
  subst hA
  rcases h.2 with ⟨h1, _⟩ | ⟨g, cap, cur, hv, _, hg, _⟩
  · cases h1
  · injection hv with h1
    injection h1 with h1
    subst h1
    exact ⟨_, _, hg⟩
theorem ownsRow_of_ge {w w' : World} {base size n : Nat} {e : TypeId} {v : Value} {xs : List Value} (h : w.ownsRow base e size v n xs) (hk : ∀ k, base ≤ k → w'.heap[k]? = w.heap[k]?) : w'.ownsRow base e size v n xs := by
  refine ⟨h.1, ?_⟩
  rcases h.2 with h1 | ⟨g, cap, cur, hv, hb, hg, hr⟩
  · exact .inl h1
  · exact .inr ⟨g, cap, cur, hv, hb, (hk g hb).trans hg, hr⟩
theorem Sl.of_heap {w w' : World} {A : Option Addr} {n c : Nat} {xs : List Value} (h : Sl w A n c xs) (hk : ∀ ad, A = some ad → w'.heap[ad.block]? = w.heap[ad.block]?) : Sl w' A n c xs :=
  ⟨h.len, h.le, h.max, h.nil, fun ad hA j u hu => (World.cell?_of_block (a := ad.add j) (by rw [block_add]; exact hk ad hA)).trans (h.cells ad hA j u hu), h.one⟩
theorem heap_setRow_other (w : World) (g k : Nat) (cs : Array Value) (h : k ≠ g) : (w.setRow g cs).heap[k]? = w.heap[k]? := by
  simp only [World.setRow, Array.getElem?_modify]
  rw [if_neg (fun e => h e.symm)]

theorem Below.setRow' {B g : Nat} {w w' : World} (h : Below B w w') (hg : B ≤ g) (cs : Array Value) : Below B w (w'.setRow g cs) :=
  ⟨h.os, h.tape, h.output, by rw [size_setRow]; exact h.size, fun k hk => (heap_setRow_other _ _ _ _ (by omega)).trans (h.block k hk)⟩

set_option maxHeartbeats 1600000 in
set_option maxRecDepth 4000 in
theorem field_text (A : Option Addr) (n c : Nat) (bs : List Nat) (k : Nat) (w : World) (hb : Sl w A n c (nats .u8 bs)) (hbs : ∀ x ∈ bs, x < 256) (hk : k ≤ n) (hn : n ≤ 1000000000000) (q a : Nat) (hv : varS bs k = (q, a, 0)) (hq : q < 18446744073709551616)
    (nm : Nat) (hnm : q / 8 = nm) (hwr : q % 8 = 2) (h1 : 1 ≤ nm) (h2 : nm ≤ 536870911) (ha : a ≤ 10) (v m : Nat) (hv2 : varS bs ((k : Int) + a) = (v, m, 0)) (hkm : k + a + m ≤ n) (hvl : k + a + m + v ≤ n) :
    Calls Try.prog 37 #[.slice A n c, .int .i64 (k : Int)] w fun e w' => ∃ B cB, e = .returned (.tuple #[.agg #[.int .i64 (nm : Int), .int .i64 2, .int .u64 0, .slice B v cB, .int .i64 (k : Int)], .int .i64 ((a + m + v : Nat) : Int), .int .i64 0]) ∧ Sl w' B v cB (nats .u8 ((bs.drop (k + a + m)).take v)) ∧ Typ w' B 5 ∧ Below w.heap.size w w' := by
  have e7 := and_7 q hq
  rw [hwr] at e7
  have ed : (q : Int) / 8 = (nm : Int) := by omega
  obtain ⟨i0, hi, hz0, hz1, hz2⟩ := info_parts Try.info5
  have hcut := hb.cut (k + (a + m)) (k + (a + m) + v) (by omega) (by omega)
  rw [show k + (a + m) + v - (k + (a + m)) = v from by omega] at hcut
  have hsl : ∀ w : World, (Instr.slice 22 (.slice A n c) (some (.int .i64 ((k : Int) + ((a : Int) + (m : Int))))) (some (.int .i64 ((k : Int) + ((a : Int) + (m : Int)) + (v : Int)))) none).run Try.prog w = .ok (.slice (dropA A c (k + (a + m))) v (c - (k + (a + m)))) w := fun w => by
    have := run_slice_lohi (w := w) (P := Try.prog) Try.underlying22 hi hz1 A n c (k + (a + m)) (k + (a + m) + v) (by omega) (by omega) hb.le hb.max
    rw [show k + (a + m) + v - (k + (a + m)) = v from by omega, show ((k + (a + m) + v : Nat) : Int) = (k : Int) + ((a : Int) + (m : Int)) + (v : Int) from by omega, show ((k + (a + m) : Nat) : Int) = (k : Int) + ((a : Int) + (m : Int)) from by omega] at this
    exact this
  have hxs : nats .u8 ((bs.drop (k + a + m)).take v) = ((nats .u8 bs).drop (k + (a + m))).take v := by simp [nats, List.map_drop, List.map_take, Nat.add_assoc]
  rw [hxs]
  generalize dropA A c (k + (a + m)) = A2 at hcut hsl
  generalize c - (k + (a + m)) = c2 at hcut hsl
  have Hcut := Lib.hid hcut
  clear hcut hxs hi hz0 hz1 hz2
  have Hv := Lib.hid hv
  have Hv2 := Lib.hid hv2
  clear hv hq hnm hwr hv2
  go_enter Try.func37, Try.ntmps37
  go_wp2_with fail
  refine (varp A n c bs k _ (hb.keep ((Below.refl _ _).alloc (Nat.le_refl _) _)) hbs (by omega) (by omega)).mono ?_
  rintro e w1 ⟨rfl, rfl⟩
  rw [Hv.out]
  unfold varV
  go_wp2_with fail
  refine (varp A n c bs ((k : Int) + a) _ (hb.keep (((Below.refl _ _).alloc (Nat.le_refl _) _).alloc (by simp) _)) hbs (by omega) (by omega)).mono ?_
  rintro e w2 ⟨rfl, rfl⟩
  rw [Hv2.out]
  unfold varV
  go_wp2_with fail
  have bA := heap_alloc2_old w (.cells #[.int .i64 0, .int .i64 0, .int .u64 0, .slice none 0 0, .int .i64 0] 57) (.cells #[.int .i64 (nm : Int), .int .i64 2, .int .u64 0, .slice none 0 0, .int .i64 (k : Int)] 57)
  have bB := heap_alloc2_new w (.cells #[.int .i64 0, .int .i64 0, .int .u64 0, .slice none 0 0, .int .i64 0] 57) (.cells #[.int .i64 (nm : Int), .int .i64 2, .int .u64 0, .slice none 0 0, .int .i64 (k : Int)] 57)
  have hone := Hcut.out.one
  have Hone := Lib.hid hone
  clear hone
  refine (clone_u8 A2 v c2 _ _ (Hcut.out.keep (((Below.refl _ _).alloc (Nat.le_refl _) _).alloc (by simp) _)) (by omega)).mono ?_
  rintro e w3 ⟨ov, rfl, hown, hb3⟩
  obtain ⟨B, cB, rfl, sB⟩ := Sl.of_own hown Hone.out
  have tB := Typ.of_own hown
  have bA3 := (hb3.block w.heap.size (by simp; omega)).trans bA
  have bB3 := (hb3.block (w.heap.size + 1) (by simp)).trans bB
  have hsz3 := hb3.size
  have Hown := Lib.hid hown
  have HtB := Lib.hid tB
  have Hb3 := Lib.hid hb3
  have HbA3 := Lib.hid bA3
  have HbB3 := Lib.hid bB3
  clear hown tB hb3 bA bB bA3 bB3
  go_wp2_with fail
  refine (clip_u8 B v cB _ _ sB).mono ?_
  rintro e w4 ⟨rfl, sB4, rfl⟩
  have cB3 : w4.cell? ⟨w.heap.size + 1, 3, none⟩ = some (.slice none 0 0) := by rw [cell_of_row _ _ _ _ _ _ HbB3.out]; rfl
  have fB3 : w4.frozen? ⟨w.heap.size + 1, 3, none⟩ = false := frozen_of_row _ _ _ _ _ HbB3.out
  have bB4 : (w4.setCell ⟨w.heap.size + 1, 3, none⟩ (.slice B v v)).heap[w.heap.size + 1]? = some (.cells #[.int .i64 (nm : Int), .int .i64 2, .int .u64 0, .slice B v v, .int .i64 (k : Int)] 57 (0, 0)) := heap_setCell_same _ _ _ _ _ _ HbB3.out
  have bA4 : (w4.setCell ⟨w.heap.size + 1, 3, none⟩ (.slice B v v)).heap[w.heap.size]? = some (.cells #[.int .i64 0, .int .i64 0, .int .u64 0, .slice none 0 0, .int .i64 0] 57 (0, 0)) := (heap_setCell_other _ _ _ _ (by simp)).trans HbA3.out
  have HbB4 := Lib.hid bB4
  have HbA4 := Lib.hid bA4
  clear bB4 bA4 sB
  go_wp2_with (first
    | (refine wpList_load_row rfl 57 (.tmp 10) rfl (w.heap.size + 1) rfl 57 _ (0, 0) _ HbB4.out Try.underlying57 rfl (by kernel_rfl) ?_)
    | (refine wpList_store_row rfl 57 (.tmp 4) (.tmp 102) rfl w.heap.size #[.int .i64 (nm : Int), .int .i64 2, .int .u64 0, .slice B v v, .int .i64 (k : Int)] rfl rfl 57 _ HbA4.out ?c1 ?c2 ?c3 ?_))
  case c1 => kernel_rfl
  case c2 => rfl
  case c3 => simp [Value.oneCell']
  refine bodyPost_ret (results_cell_row3 rfl _ _ w.heap.size _ _ (0, 0) _ rfl (setRow_heap _ _ _ _ _ _ HbA4.out) Try.underlying57 rfl (by kernel_rfl)) rfl ?_
  have hge : ∀ k', w.heap.size + 2 ≤ k' → ((w4.setCell ⟨w.heap.size + 1, 3, none⟩ (.slice B v v)).setRow w.heap.size #[.int .i64 (nm : Int), .int .i64 2, .int .u64 0, .slice B v v, .int .i64 (k : Int)]).heap[k']? = w4.heap[k']? := fun k' hk' => by
    rw [heap_setRow_other _ _ _ _ (by omega), heap_setCell_other _ _ _ _ (by simp; omega)]
  have hbB : ∀ ad, B = some ad → w.heap.size + 2 ≤ ad.block := fun ad hB => by
    have := (Hown.out.lt ad.block (by subst hB; rfl)).1
    simpa using this
  refine ⟨B, v, ret_field rfl (by push_cast; rfl), sB4.of_heap fun ad hB => hge _ (hbB ad hB), fun ad hB => ?_, ?_⟩
  · obtain ⟨cs, fr, h⟩ := HtB.out ad hB
    exact ⟨cs, fr, (hge _ (hbB ad hB)).trans h⟩
  · exact Below.setRow' ((((((Below.refl _ _).alloc (Nat.le_refl _) _).alloc (by simp) _).trans (Hb3.out.mono (by simp; omega))).setCell (p := ⟨w.heap.size + 1, 3, none⟩) (by simp) _)) (Nat.le_refl _) _
end Go.Proofs.Ytihclbiohljmlaa
