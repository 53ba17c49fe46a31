/- The reference's field: what it answers. -/
import Derived.Test.YtihclbiohljmlaaPbField6
namespace Go.Proofs.Ytihclbiohljmlaa
open Go.RowKit
open PackMath
set_option linter.unusedVariables false

theorem or_low (acc x : Nat) (h : acc < 72057594037927936) (hx : x < 256) : bits .or .u64 (IntKind.u64.wrap ((acc : Int) * 256)) (x : Int) = ((x + 256 * acc : Nat) : Int) := by
  have e : IntKind.u64.wrap ((acc : Int) * 256) = ((acc * 256 : Nat) : Int) := by rw [IntKind.wrap_u64]; omega
  have h2 := Nat.two_pow_add_eq_or_of_lt (i := 8) (b := x) (by simpa using hx) acc
  rw [show (2 : Nat) ^ 8 = 256 from rfl] at h2
  rw [e, bits_or_u64 _ _ (by omega) (by omega), Nat.mul_comm acc 256, ← h2]
  congr 1
  omega

set_option maxHeartbeats 1600000 in
set_option maxRecDepth 4000 in
theorem rfield_bad1 (A : Option Addr) (n c : Nat) (bs : List Nat) (k : Nat) (er : Nat) (w : World) (hb : Sl w A n c (nats .u8 bs)) (hbs : ∀ x ∈ bs, x < 256) (hk : k ≤ n) (hn : n ≤ 1000000000000) (q a : Nat) (hv : varS bs k = (q, a, er)) (he : ((er : Int) != 0) = true) (heb : er < 100) :
    Calls Try.prog 39 #[.slice A n c, .int .i64 (k : Int)] w fun e w' => e = .returned (.tuple #[fz, .int .i64 0, .int .i64 (er : Int)]) ∧ Below w.heap.size w w' := by
  have Hv := Lib.hid hv
  clear hv
  go_enter Try.func39, Try.ntmps39
  go_wp2_with fail
  refine (varr A n c bs k _ (hb.keep ((Below.refl _ _).alloc (Nat.le_refl _) _)) hbs (by omega) (by omega)).mono ?_
  rintro e w1 ⟨rfl, rfl⟩
  rw [Hv.out]
  unfold varV
  go_wp2_with fail
  refine bodyPost_ret (results_cell_row3 rfl _ _ w.heap.size _ _ (0, 0) _ rfl (heap_alloc_new w _) Try.underlying84 rfl (by kernel_rfl)) rfl ?_
  exact ⟨rfl, (Below.refl _ _).alloc (Nat.le_refl _) _⟩

set_option maxHeartbeats 1600000 in
set_option maxRecDepth 4000 in
theorem rfield_bad2 (A : Option Addr) (n c : Nat) (bs : List Nat) (k : Nat) (w : World) (hb : Sl w A n c (nats .u8 bs)) (hbs : ∀ x ∈ bs, x < 256) (hk : k ≤ n) (hn : n ≤ 1000000000000) (q a : Nat) (hv : varS bs k = (q, a, 0)) (hq : q < 18446744073709551616)
    (nm wr : Nat) (hnm : q / 8 = nm) (hwr : q % 8 = wr) (hbad : nm < 1 ∨ 536870911 < nm) :
    Calls Try.prog 39 #[.slice A n c, .int .i64 (k : Int)] w fun e w' => e = .returned (.tuple #[fz, .int .i64 0, .int .i64 2]) ∧ Below w.heap.size w w' := by
  have e7 := and_7 q hq
  rw [hwr] at e7
  have ed : (q : Int) / 8 = (nm : Int) := by omega
  have hnb : nm ≤ 2305843009213693951 := by omega
  have hw8 : wr < 8 := by omega
  have Hv := Lib.hid hv
  clear hv hq hnm hwr
  rcases hbad with hbad | hbad
  all_goals
    go_enter Try.func39, Try.ntmps39
    go_wp2_with fail
    refine (varr A n c bs k _ (hb.keep ((Below.refl _ _).alloc (Nat.le_refl _) _)) hbs (by omega) (by omega)).mono ?_
    rintro e w1 ⟨rfl, rfl⟩
    rw [Hv.out]
    unfold varV
    go_wp2_with fail
    refine bodyPost_ret (results_cell_row3 rfl _ _ w.heap.size _ _ (0, 0) _ rfl ((Below.heap_alloc _ _ _ (by simp)).trans (heap_alloc_new w _)) Try.underlying84 rfl (by kernel_rfl)) rfl ?_
    exact ⟨rfl, ((Below.refl _ _).alloc (Nat.le_refl _) _).alloc (by simp) _⟩

set_option maxHeartbeats 1600000 in
set_option maxRecDepth 4000 in
theorem rfield_var (A : Option Addr) (n c : Nat) (bs : List Nat) (k : Nat) (w : World) (hb : Sl w A n c (nats .u8 bs)) (hbs : ∀ x ∈ bs, x < 256) (hk : k ≤ n) (hn : n ≤ 1000000000000) (q a : Nat) (hv : varS bs k = (q, a, 0)) (hq : q < 18446744073709551616)
    (nm : Nat) (hnm : q / 8 = nm) (hwr : q % 8 = 0) (h1 : 1 ≤ nm) (h2 : nm ≤ 536870911) (ha : a ≤ 10) (v m : Nat) (hv2 : varS bs ((k : Int) + a) = (v, m, 0)) (hm : m ≤ 10) :
    Calls Try.prog 39 #[.slice A n c, .int .i64 (k : Int)] w fun e w' => e = .returned (.tuple #[.agg #[.int .i64 (nm : Int), .int .i64 0, .int .u64 (v : Int), .slice none 0 0, .int .i64 (k : Int)], .int .i64 ((k + (a + m) : Nat) : Int), .int .i64 0]) ∧ Below w.heap.size w w' := by
  have e7 := and_7 q hq
  rw [hwr] at e7
  have ed : (q : Int) / 8 = (nm : Int) := by omega
  have Hv := Lib.hid hv
  have Hv2 := Lib.hid hv2
  clear hv hq hnm hwr hv2
  go_enter Try.func39, Try.ntmps39
  go_wp2_with fail
  refine (varr A n c bs k _ (hb.keep ((Below.refl _ _).alloc (Nat.le_refl _) _)) hbs (by omega) (by omega)).mono ?_
  rintro e w1 ⟨rfl, rfl⟩
  rw [Hv.out]
  unfold varV
  go_wp2_with fail
  refine (varr A n c bs ((k : Int) + a) _ (hb.keep (((Below.refl _ _).alloc (Nat.le_refl _) _).alloc (by simp) _)) hbs (by omega) (by omega)).mono ?_
  rintro e w2 ⟨rfl, rfl⟩
  rw [Hv2.out]
  unfold varV
  go_wp2_with fail
  refine bodyPost_ret (results_cell_row3 rfl _ _ w.heap.size _ _ (0, 0) _ rfl ((Below.heap_alloc _ _ _ (by simp)).trans (heap_alloc_new w _)) Try.underlying84 rfl (by kernel_rfl)) rfl ?_
  exact ⟨ret_field rfl (by push_cast; omega), ((Below.refl _ _).alloc (Nat.le_refl _) _).alloc (by simp) _⟩

set_option maxHeartbeats 1600000 in
set_option maxRecDepth 4000 in
theorem rfield_varbad (A : Option Addr) (n c : Nat) (bs : List Nat) (k : Nat) (w : World) (hb : Sl w A n c (nats .u8 bs)) (hbs : ∀ x ∈ bs, x < 256) (hk : k ≤ n) (hn : n ≤ 1000000000000) (q a : Nat) (hv : varS bs k = (q, a, 0)) (hq : q < 18446744073709551616)
    (nm wr : Nat) (hnm : q / 8 = nm) (hwr : q % 8 = wr) (hw02 : wr = 0 ∨ wr = 2) (h1 : 1 ≤ nm) (h2 : nm ≤ 536870911) (ha : a ≤ 10) (v m er : Nat) (hv2 : varS bs ((k : Int) + a) = (v, m, er)) (he : ((er : Int) != 0) = true) (heb : er < 100) :
    Calls Try.prog 39 #[.slice A n c, .int .i64 (k : Int)] w fun e w' => e = .returned (.tuple #[fz, .int .i64 0, .int .i64 (er : Int)]) ∧ Below w.heap.size w w' := by
  have e7 := and_7 q hq
  rw [hwr] at e7
  have ed : (q : Int) / 8 = (nm : Int) := by omega
  have Hv := Lib.hid hv
  have Hv2 := Lib.hid hv2
  clear hv hq hnm hwr hv2
  rcases hw02 with rfl | rfl
  all_goals
    go_enter Try.func39, Try.ntmps39
    go_wp2_with fail
    refine (varr A n c bs k _ (hb.keep ((Below.refl _ _).alloc (Nat.le_refl _) _)) hbs (by omega) (by omega)).mono ?_
    rintro e w1 ⟨rfl, rfl⟩
    rw [Hv.out]
    unfold varV
    go_wp2_with fail
    refine (varr A n c bs ((k : Int) + a) _ (hb.keep (((Below.refl _ _).alloc (Nat.le_refl _) _).alloc (by simp) _)) hbs (by omega) (by omega)).mono ?_
    rintro e w2 ⟨rfl, rfl⟩
    rw [Hv2.out]
    unfold varV
    go_wp2_with fail
    refine bodyPost_ret (results_cell_row3 rfl _ _ w.heap.size _ _ (0, 0) _ rfl ((Below.heap_alloc _ _ _ (by simp)).trans (heap_alloc_new w _)) Try.underlying84 rfl (by kernel_rfl)) rfl ?_
    exact ⟨rfl, ((Below.refl _ _).alloc (Nat.le_refl _) _).alloc (by simp) _⟩

set_option maxHeartbeats 1600000 in
set_option maxRecDepth 4000 in
theorem rfield_wire (A : Option Addr) (n c : Nat) (bs : List Nat) (k : Nat) (w : World) (hb : Sl w A n c (nats .u8 bs)) (hbs : ∀ x ∈ bs, x < 256) (hk : k ≤ n) (hn : n ≤ 1000000000000) (q a : Nat) (hv : varS bs k = (q, a, 0)) (hq : q < 18446744073709551616)
    (nm wr : Nat) (hnm : q / 8 = nm) (hwr : q % 8 = wr) (hw : wr = 3 ∨ wr = 4 ∨ wr = 6 ∨ wr = 7) (h1 : 1 ≤ nm) (h2 : nm ≤ 536870911) (ha : a ≤ 10) :
    Calls Try.prog 39 #[.slice A n c, .int .i64 (k : Int)] w fun e w' => e = .returned (.tuple #[fz, .int .i64 0, .int .i64 2]) ∧ Below w.heap.size w w' := by
  have e7 := and_7 q hq
  rw [hwr] at e7
  have ed : (q : Int) / 8 = (nm : Int) := by omega
  have Hv := Lib.hid hv
  clear hv hq hnm hwr
  rcases hw with rfl | rfl | rfl | rfl
  all_goals
    go_enter Try.func39, Try.ntmps39
    go_wp2_with fail
    refine (varr A n c bs k _ (hb.keep ((Below.refl _ _).alloc (Nat.le_refl _) _)) hbs (by omega) (by omega)).mono ?_
    rintro e w1 ⟨rfl, rfl⟩
    rw [Hv.out]
    unfold varV
    go_wp2_with fail
    refine bodyPost_ret (results_cell_row3 rfl _ _ w.heap.size _ _ (0, 0) _ rfl ((Below.heap_alloc _ _ _ (by simp)).trans (heap_alloc_new w _)) Try.underlying84 rfl (by kernel_rfl)) rfl ?_
    exact ⟨rfl, ((Below.refl _ _).alloc (Nat.le_refl _) _).alloc (by simp) _⟩

set_option maxHeartbeats 1600000 in
set_option maxRecDepth 4000 in
theorem rfield_short (A : Option Addr) (n c : Nat) (bs : List Nat) (k : Nat) (w : World) (hb : Sl w A n c (nats .u8 bs)) (hbs : ∀ x ∈ bs, x < 256) (hk : k ≤ n) (hn : n ≤ 1000000000000) (q a : Nat) (hv : varS bs k = (q, a, 0)) (hq : q < 18446744073709551616)
    (nm wr : Nat) (hnm : q / 8 = nm) (hwr : q % 8 = wr) (h1 : 1 ≤ nm) (h2 : nm ≤ 536870911) (ha : a ≤ 10) (hka : k + a ≤ n) (hw : (wr = 1 ∧ n < k + a + 8) ∨ (wr = 5 ∧ n < k + a + 4)) :
    Calls Try.prog 39 #[.slice A n c, .int .i64 (k : Int)] w fun e w' => e = .returned (.tuple #[fz, .int .i64 0, .int .i64 3]) ∧ Below w.heap.size w w' := by
  have e7 := and_7 q hq
  rw [hwr] at e7
  have ed : (q : Int) / 8 = (nm : Int) := by omega
  have Hv := Lib.hid hv
  clear hv hq hnm hwr
  rcases hw with ⟨rfl, hs⟩ | ⟨rfl, hs⟩
  all_goals
    go_enter Try.func39, Try.ntmps39
    go_wp2_with fail
    refine (varr A n c bs k _ (hb.keep ((Below.refl _ _).alloc (Nat.le_refl _) _)) hbs (by omega) (by omega)).mono ?_
    rintro e w1 ⟨rfl, rfl⟩
    rw [Hv.out]
    unfold varV
    go_wp2_with fail
    refine bodyPost_ret (results_cell_row3 rfl _ _ w.heap.size _ _ (0, 0) _ rfl ((Below.heap_alloc _ _ _ (by simp)).trans (heap_alloc_new w _)) Try.underlying84 rfl (by kernel_rfl)) rfl ?_
    exact ⟨rfl, ((Below.refl _ _).alloc (Nat.le_refl _) _).alloc (by simp) _⟩

set_option maxHeartbeats 1600000 in
set_option maxRecDepth 4000 in
theorem rfield_textshort (A : Option Addr) (n c : Nat) (bs : List Nat) (k : Nat) (w : World) (hb : Sl w A n c (nats .u8 bs)) (hbs : ∀ x ∈ bs, x < 256) (hk : k ≤ n) (hn : n ≤ 1000000000000) (q a : Nat) (hv : varS bs k = (q, a, 0)) (hq : q < 18446744073709551616)
    (nm : Nat) (hnm : q / 8 = nm) (hwr : q % 8 = 2) (h1 : 1 ≤ nm) (h2 : nm ≤ 536870911) (ha : a ≤ 10) (v m : Nat) (hv2 : varS bs ((k : Int) + a) = (v, m, 0)) (hkm : k + a + m ≤ n) (hvl : n < k + a + m + v) :
    Calls Try.prog 39 #[.slice A n c, .int .i64 (k : Int)] w fun e w' => e = .returned (.tuple #[fz, .int .i64 0, .int .i64 3]) ∧ Below w.heap.size w w' := by
  have e7 := and_7 q hq
  rw [hwr] at e7
  have ed : (q : Int) / 8 = (nm : Int) := by omega
  have Hv := Lib.hid hv
  have Hv2 := Lib.hid hv2
  clear hv hq hnm hwr hv2
  go_enter Try.func39, Try.ntmps39
  go_wp2_with fail
  refine (varr A n c bs k _ (hb.keep ((Below.refl _ _).alloc (Nat.le_refl _) _)) hbs (by omega) (by omega)).mono ?_
  rintro e w1 ⟨rfl, rfl⟩
  rw [Hv.out]
  unfold varV
  go_wp2_with fail
  refine (varr A n c bs ((k : Int) + a) _ (hb.keep (((Below.refl _ _).alloc (Nat.le_refl _) _).alloc (by simp) _)) hbs (by omega) (by omega)).mono ?_
  rintro e w2 ⟨rfl, rfl⟩
  rw [Hv2.out]
  unfold varV
  go_wp2_with fail
  refine bodyPost_ret (results_cell_row3 rfl _ _ w.heap.size _ _ (0, 0) _ rfl ((Below.heap_alloc _ _ _ (by simp)).trans (heap_alloc_new w _)) Try.underlying84 rfl (by kernel_rfl)) rfl ?_
  exact ⟨rfl, ((Below.refl _ _).alloc (Nat.le_refl _) _).alloc (by simp) _⟩
end Go.Proofs.Ytihclbiohljmlaa
