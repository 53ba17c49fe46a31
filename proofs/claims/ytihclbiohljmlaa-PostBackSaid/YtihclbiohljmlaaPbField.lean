/- pb.field: what it answers. Under way. -/
import Derived.Test.YtihclbiohljmlaaPbPutR
namespace Go.Proofs.Ytihclbiohljmlaa
open Go.RowKit
set_option linter.unusedVariables false

/-- Three results, the first one a struct in a cell of its own. -/
theorem results_cell_row3 {P : Program} {fn : Func} {p u v : Tmp} {ty : TypeId} (h : fn.results = #[.cell p ty, .tmp u, .tmp v]) (tmps : Array Value) (w : World) (g : Nat) (t : TypeId) (cs : Array Value) (fr : Nat × Nat) (d : TypeDesc)
    (hp : tmps.getD p undef = .pointer (some ⟨g, 0, none⟩)) (hg : w.heap[g]? = some (.cells cs t fr))
    (hu : P.underlying ty = some d) (hd : (match d with | .struct _ | .array _ _ => true | _ => false) = true) (hi : (P.info? ty).map (·.size) = some cs.size) :
    (results fn tmps).run P w = .ok (.tuple #[.agg cs, tmps.getD u undef, tmps.getD v undef]) w := by
  have hp' : tmps[p]?.getD undef = .pointer (some ⟨g, 0, none⟩) := by simpa using hp
  simp [results, h, hp', asAddr, run_loadVar_row w g t ty cs fr d hg hu hd hi]

set_option maxHeartbeats 1600000 in
set_option maxRecDepth 4000 in
theorem field_bad1 (A : Option Addr) (n c : Nat) (bs : List Nat) (k : Nat) (er : Nat) (w : World) (hb : Sl w A n c (nats .u8 bs)) (hbs : ∀ x ∈ bs, x < 256) (hk : k ≤ n) (hn : n ≤ 1000000000000) (q a : Nat) (hv : varS bs k = (q, a, er)) (he : ((er : Int) != 0) = true) (heb : er < 100) :
    Calls Try.prog 37 #[.slice A n c, .int .i64 (k : Int)] w fun e w' => e = .returned (.tuple #[.agg #[.int .i64 0, .int .i64 0, .int .u64 0, .slice none 0 0, .int .i64 0], .int .i64 0, .int .i64 (er : Int)]) ∧ Below w.heap.size w w' := by
  have Hv := Lib.hid hv
  clear hv
  go_enter Try.func37, Try.ntmps37
  go_wp2_with fail
  refine (varp A n c bs k _ (hb.keep ((Below.refl _ _).alloc (Nat.le_refl _) _)) hbs (by omega) (by omega)).mono ?_
  rintro e w1 ⟨rfl, rfl⟩
  rw [Hv.out]
  unfold varV
  go_wp2_with fail
  refine bodyPost_ret (results_cell_row3 rfl _ _ w.heap.size _ _ (0, 0) _ rfl (heap_alloc_new w _) Try.underlying57 rfl (by kernel_rfl)) rfl ?_
  exact ⟨rfl, (Below.refl _ _).alloc (Nat.le_refl _) _⟩

theorem and_7 (q : Nat) (h : q < 18446744073709551616) : bits .and .u64 (q : Int) 7 = ((q % 8 : Nat) : Int) := by
  rw [show (7 : Int) = ((7 : Nat) : Int) from rfl, bits_and_u64 _ _ h (by decide), show (7 : Nat) = 2 ^ 3 - 1 from rfl, Nat.and_two_pow_sub_one_eq_mod]

theorem ret_field {r r' : Value} {x y : Int} {s : Value} (hr : r = r') (h : x = y) : Ending.returned (.tuple #[r, .int .i64 x, s]) = .returned (.tuple #[r', .int .i64 y, s]) := by rw [hr, h]

/-- The struct of no field. -/
def fz : Value := .agg #[.int .i64 0, .int .i64 0, .int .u64 0, .slice none 0 0, .int .i64 0]

set_option maxHeartbeats 1600000 in
set_option maxRecDepth 4000 in
theorem field_bad2 (A : Option Addr) (n c : Nat) (bs : List Nat) (k : Nat) (w : World) (hb : Sl w A n c (nats .u8 bs)) (hbs : ∀ x ∈ bs, x < 256) (hk : k ≤ n) (hn : n ≤ 1000000000000) (q a : Nat) (hv : varS bs k = (q, a, 0)) (hq : q < 18446744073709551616)
    (nm wr : Nat) (hnm : q / 8 = nm) (hwr : q % 8 = wr) (hbad : nm < 1 ∨ 536870911 < nm) :
    Calls Try.prog 37 #[.slice A n c, .int .i64 (k : Int)] w fun e w' => e = .returned (.tuple #[fz, .int .i64 0, .int .i64 2]) ∧ Below w.heap.size w w' := by
  have e7 := and_7 q hq
  rw [hwr] at e7
  have ed : (q : Int) / 8 = (nm : Int) := by omega
  have hw8 : wr < 8 := by omega
  have Hv := Lib.hid hv
  clear hv hq hnm hwr
  rcases hbad with hbad | hbad
  all_goals
    go_enter Try.func37, Try.ntmps37
    go_wp2_with fail
    refine (varp A n c bs k _ (hb.keep ((Below.refl _ _).alloc (Nat.le_refl _) _)) hbs (by omega) (by omega)).mono ?_
    rintro e w1 ⟨rfl, rfl⟩
    rw [Hv.out]
    unfold varV
    go_wp2_with fail
    refine bodyPost_ret (results_cell_row3 rfl _ _ w.heap.size _ _ (0, 0) _ rfl ((Below.heap_alloc _ _ _ (by simp)).trans (heap_alloc_new w _)) Try.underlying57 rfl (by kernel_rfl)) rfl ?_
    exact ⟨rfl, ((Below.refl _ _).alloc (Nat.le_refl _) _).alloc (by simp) _⟩

set_option maxHeartbeats 1600000 in
set_option maxRecDepth 4000 in
theorem field_var (A : Option Addr) (n c : Nat) (bs : List Nat) (k : Nat) (w : World) (hb : Sl w A n c (nats .u8 bs)) (hbs : ∀ x ∈ bs, x < 256) (hk : k ≤ n) (hn : n ≤ 1000000000000) (q a : Nat) (hv : varS bs k = (q, a, 0)) (hq : q < 18446744073709551616)
    (nm : Nat) (hnm : q / 8 = nm) (hwr : q % 8 = 0) (h1 : 1 ≤ nm) (h2 : nm ≤ 536870911) (ha : a ≤ 10) (v m : Nat) (hv2 : varS bs ((k : Int) + a) = (v, m, 0)) (hm : m ≤ 10) :
    Calls Try.prog 37 #[.slice A n c, .int .i64 (k : Int)] w fun e w' => e = .returned (.tuple #[.agg #[.int .i64 (nm : Int), .int .i64 0, .int .u64 (v : Int), .slice none 0 0, .int .i64 (k : Int)], .int .i64 ((a + m : Nat) : Int), .int .i64 0]) ∧ Below w.heap.size w w' := by
  have e7 := and_7 q hq
  rw [hwr] at e7
  have ed : (q : Int) / 8 = (nm : Int) := by omega
  have Hv := Lib.hid hv
  have Hv2 := Lib.hid hv2
  clear hv hq hnm hwr hv2
  go_enter Try.func37, Try.ntmps37
  go_wp2_with fail
  refine (varp A n c bs k _ (hb.keep ((Below.refl _ _).alloc (Nat.le_refl _) _)) hbs (by omega) (by omega)).mono ?_
  rintro e w1 ⟨rfl, rfl⟩
  rw [Hv.out]
  unfold varV
  go_wp2_with fail
  refine (varp A n c bs ((k : Int) + a) _ (hb.keep (((Below.refl _ _).alloc (Nat.le_refl _) _).alloc (by simp) _)) hbs (by omega) (by omega)).mono ?_
  rintro e w2 ⟨rfl, rfl⟩
  rw [Hv2.out]
  unfold varV
  go_wp2_with fail
  refine bodyPost_ret (results_cell_row3 rfl _ _ w.heap.size _ _ (0, 0) _ rfl ((Below.heap_alloc _ _ _ (by simp)).trans (heap_alloc_new w _)) Try.underlying57 rfl (by kernel_rfl)) rfl ?_
  exact ⟨ret_field rfl (by push_cast; rfl), ((Below.refl _ _).alloc (Nat.le_refl _) _).alloc (by simp) _⟩
end Go.Proofs.Ytihclbiohljmlaa
