/- pb.field: the second number's fault, a text, another wire. -/
import Derived.Test.YtihclbiohljmlaaPbField
namespace Go.Proofs.Ytihclbiohljmlaa
open Go.RowKit
set_option linter.unusedVariables false

set_option maxHeartbeats 1600000 in
set_option maxRecDepth 4000 in
theorem field_varbad (A : Option Addr) (n c : Nat) (bs : List Nat) (k : Nat) (w : World) (hb : Sl w A n c (nats .u8 bs)) (hbs : ∀ x ∈ bs, x < 256) (hk : k ≤ n) (hn : n ≤ 1000000000000) (q a : Nat) (hv : varS bs k = (q, a, 0)) (hq : q < 18446744073709551616)
    (nm wr : Nat) (hnm : q / 8 = nm) (hwr : q % 8 = wr) (hw02 : wr = 0 ∨ wr = 2) (h1 : 1 ≤ nm) (h2 : nm ≤ 536870911) (ha : a ≤ 10) (v m er : Nat) (hv2 : varS bs ((k : Int) + a) = (v, m, er)) (he : ((er : Int) != 0) = true) (heb : er < 100) :
    Calls Try.prog 37 #[.slice A n c, .int .i64 (k : Int)] w fun e w' => e = .returned (.tuple #[fz, .int .i64 0, .int .i64 (er : Int)]) ∧ Below w.heap.size w w' := by
  have e7 := and_7 q hq
  rw [hwr] at e7
  have ed : (q : Int) / 8 = (nm : Int) := by omega
  have Hv := Lib.hid hv
  have Hv2 := Lib.hid hv2
  clear hv hq hnm hwr hv2
  rcases hw02 with rfl | rfl
  all_goals
    go_enter Try.func37, Try.ntmps37
    go_wp2_with fail
    refine (varp A n c bs k _ (hb.keep ((Below.refl _ _).alloc (Nat.le_refl _) _)) hbs (by omega) (by omega)).mono ?_
    rintro e w1 ⟨rfl, rfl⟩
    rw [Hv.out]
    unfold varV
    go_wp2_with fail
    refine (varp A n c bs ((k : Int) + a) _ (hb.keep (((Below.refl _ _).alloc (Nat.le_refl _) _).alloc (by simp) _)) hbs (by omega) (by omega)).mono ?_
    rintro e w2 ⟨rfl, rfl⟩
    rw [Hv2.out]
    unfold varV
    go_wp2_with fail
    refine bodyPost_ret (results_cell_row3 rfl _ _ w.heap.size _ _ (0, 0) _ rfl ((Below.heap_alloc _ _ _ (by simp)).trans (heap_alloc_new w _)) Try.underlying57 rfl (by kernel_rfl)) rfl ?_
    exact ⟨rfl, ((Below.refl _ _).alloc (Nat.le_refl _) _).alloc (by simp) _⟩

set_option maxHeartbeats 1600000 in
set_option maxRecDepth 4000 in
theorem field_wire (A : Option Addr) (n c : Nat) (bs : List Nat) (k : Nat) (w : World) (hb : Sl w A n c (nats .u8 bs)) (hbs : ∀ x ∈ bs, x < 256) (hk : k ≤ n) (hn : n ≤ 1000000000000) (q a : Nat) (hv : varS bs k = (q, a, 0)) (hq : q < 18446744073709551616)
    (nm wr : Nat) (hnm : q / 8 = nm) (hwr : q % 8 = wr) (hw : wr = 3 ∨ wr = 4 ∨ wr = 6 ∨ wr = 7) (h1 : 1 ≤ nm) (h2 : nm ≤ 536870911) (ha : a ≤ 10) :
    Calls Try.prog 37 #[.slice A n c, .int .i64 (k : Int)] w fun e w' => e = .returned (.tuple #[fz, .int .i64 0, .int .i64 2]) ∧ Below w.heap.size w w' := by
  have e7 := and_7 q hq
  rw [hwr] at e7
  have ed : (q : Int) / 8 = (nm : Int) := by omega
  have Hv := Lib.hid hv
  clear hv hq hnm hwr
  rcases hw with rfl | rfl | rfl | rfl
  all_goals
    go_enter Try.func37, Try.ntmps37
    go_wp2_with fail
    refine (varp A n c bs k _ (hb.keep ((Below.refl _ _).alloc (Nat.le_refl _) _)) hbs (by omega) (by omega)).mono ?_
    rintro e w1 ⟨rfl, rfl⟩
    rw [Hv.out]
    unfold varV
    go_wp2_with fail
    refine bodyPost_ret (results_cell_row3 rfl _ _ w.heap.size _ _ (0, 0) _ rfl ((Below.heap_alloc _ _ _ (by simp)).trans (heap_alloc_new w _)) Try.underlying57 rfl (by kernel_rfl)) rfl ?_
    exact ⟨rfl, ((Below.refl _ _).alloc (Nat.le_refl _) _).alloc (by simp) _⟩

set_option maxHeartbeats 1600000 in
set_option maxRecDepth 4000 in
theorem field_short (A : Option Addr) (n c : Nat) (bs : List Nat) (k : Nat) (w : World) (hb : Sl w A n c (nats .u8 bs)) (hbs : ∀ x ∈ bs, x < 256) (hk : k ≤ n) (hn : n ≤ 1000000000000) (q a : Nat) (hv : varS bs k = (q, a, 0)) (hq : q < 18446744073709551616)
    (nm wr : Nat) (hnm : q / 8 = nm) (hwr : q % 8 = wr) (h1 : 1 ≤ nm) (h2 : nm ≤ 536870911) (ha : a ≤ 10) (hka : k + a ≤ n) (hw : (wr = 1 ∧ n < k + a + 8) ∨ (wr = 5 ∧ n < k + a + 4)) :
    Calls Try.prog 37 #[.slice A n c, .int .i64 (k : Int)] w fun e w' => e = .returned (.tuple #[fz, .int .i64 0, .int .i64 3]) ∧ Below w.heap.size w w' := by
  have e7 := and_7 q hq
  rw [hwr] at e7
  have ed : (q : Int) / 8 = (nm : Int) := by omega
  have Hv := Lib.hid hv
  clear hv hq hnm hwr
  rcases hw with ⟨rfl, hs⟩ | ⟨rfl, hs⟩
  all_goals
    go_enter Try.func37, Try.ntmps37
    go_wp2_with fail
    refine (varp A n c bs k _ (hb.keep ((Below.refl _ _).alloc (Nat.le_refl _) _)) hbs (by omega) (by omega)).mono ?_
    rintro e w1 ⟨rfl, rfl⟩
    rw [Hv.out]
    unfold varV
    go_wp2_with fail
    refine bodyPost_ret (results_cell_row3 rfl _ _ w.heap.size _ _ (0, 0) _ rfl ((Below.heap_alloc _ _ _ (by simp)).trans (heap_alloc_new w _)) Try.underlying57 rfl (by kernel_rfl)) rfl ?_
    exact ⟨rfl, ((Below.refl _ _).alloc (Nat.le_refl _) _).alloc (by simp) _⟩
end Go.Proofs.Ytihclbiohljmlaa
