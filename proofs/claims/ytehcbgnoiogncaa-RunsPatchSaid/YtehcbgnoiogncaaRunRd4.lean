/- rle2's reader: packed numbers. (Printed by gen/runrd4.py.) -/
import Derived.Test.YtehcbgnoiogncaaRunRd3
import Derived.Deep.Onto
namespace Go.Proofs.Ytehcbgnoiogncaa
open Go.RowKit
open PackMath
set_option linter.unusedVariables false

def Fact.ownT (B : Nat) (e : TypeId) (n : Nat) (xs : List Value) (x y : Value) : Fact :=
  ⟨fun v w => ∃ A c, v = .tuple #[.slice A n c, x, y] ∧ w.ownsRow B e 1 (.slice A n c) n xs, fun _ _ _ ⟨A, c, e, h⟩ hb => ⟨A, c, e, World.ownsRow.below h hb⟩⟩
/-- What packed answers: an own row. -/
def PkOwn (w : World) (g : Nat) (A : Option Addr) (n c : Nat) (bs : List Nat) (p : Nat) (sg : Bool) (k : Nat) (xs : List Nat) (er : Nat) (e : Ending) (w' : World) : Prop :=
  ∃ A' c', e = .returned (.tuple #[.slice A' k c', .int .i64 (er : Int)]) ∧ w'.ownsRow w.heap.size 26 1 (.slice A' k c') k (nats .u64 xs) ∧ RdTo w g A n c bs p sg w'
set_option maxHeartbeats 1600000 in
set_option maxRecDepth 4000 in
theorem rdpacked_own {w : World} {g : Nat} {A : Option Addr} {n c : Nat} {bs : List Nat} {p : Nat} {sg : Bool} (h : Rd w g A n c bs p sg) (count wd k nb er : Nat) (xs : List Nat) (hpn : p + nb ≤ n)
    (hget : ∀ w' : World, Sl w' A n c (nats .u8 bs) → Calls Try.prog 42 #[.slice A n c, .int .i64 (p : Int), .int .i64 (count : Int), .int .i64 (wd : Int)] w' fun e w'' => ∃ A' c', e = .returned (.tuple #[.slice A' k c', .int .i64 (nb : Int), .int .i64 (er : Int)]) ∧ w''.ownsRow w'.heap.size 26 1 (.slice A' k c') k (nats .u64 xs) ∧ Below w'.heap.size w' w'') :
    Calls Try.prog 33 #[.pointer (some ⟨g, 0, none⟩), .int .i64 (count : Int), .int .i64 (wd : Int)] w fun e w' => PkOwn w g A n c bs (p + nb) sg k xs er e w' := by
  have C0 := Lib.hid h.c0
  have C1 := Lib.hid h.c1
  have few := h.few
  have Hg := Lib.hid h.lt
  have Hr := Lib.hid h
  have Hget := Lib.hid hget
  clear h hget
  go_enter Try.func33, Try.ntmps33
  go_wp2_with fail
  refine region_all _ [Fact.is (.pointer (some ⟨g, 0, none⟩)), Fact.is (.pointer (some ⟨g, 0, none⟩)), Fact.is (.pointer (some ⟨g, 0, none⟩)), Fact.is (.slice A n c), Fact.is (.pointer (some ⟨g, 0, none⟩)), Fact.is (.pointer (some ⟨g, 0, none⟩)), Fact.is (.pointer (some ⟨g, 1, none⟩)), Fact.is (.int .i64 (p : Int)), Fact.is (.int .i64 (count : Int)), Fact.is (.int .i64 (wd : Int)), Fact.ownT w.heap.size 26 k (nats .u64 xs) (.int .i64 (nb : Int)) (.int .i64 (er : Int)), Fact.ownT w.heap.size 26 k (nats .u64 xs) (.int .i64 (nb : Int)) (.int .i64 (er : Int)), Fact.own w.heap.size 26 k (nats .u64 xs), Fact.is (.int .i64 (nb : Int)), Fact.is (.int .i64 (er : Int)), Fact.own w.heap.size 26 k (nats .u64 xs), Fact.is (.int .i64 (nb : Int)), Fact.is (.int .i64 (er : Int))] [[(0, none)], [(12, some 0)], [(13, some 1)], [(14, some 2)], [(0, none)], [(16, some 4)], [(17, some 5)], [(18, some 6)], [(1, none)], [(2, none)], [(15, some 3), (19, some 7), (20, some 8), (21, some 9)], [(22, some 10)], [(11, some 11)], [(11, some 11)], [(11, some 11)], [(23, some 12)], [(24, some 13)], [(25, some 14)]] [true, true, true, true, true, true, true, true, true, true, true, true, true, true, true, true, true, true] (by kernel_rfl) (by kernel_rfl) ⟨⟨?_, ?_⟩, ⟨?_, ?_⟩, ⟨?_, ?_⟩, ⟨?_, ?_⟩, ⟨?_, ?_⟩, ⟨?_, ?_⟩, ⟨?_, ?_⟩, ⟨?_, ?_⟩, ⟨?_, ?_⟩, ⟨?_, ?_⟩, ⟨?_, ?_⟩, ⟨?_, ?_⟩, ⟨?_, ?_⟩, ⟨?_, ?_⟩, ⟨?_, ?_⟩, ⟨?_, ?_⟩, ⟨?_, ?_⟩, ⟨?_, ?_⟩, trivial⟩ ?_
  · intro ρ w' hc hB h0
    refine chain_run rfl ?_
    exact opk_move rfl ⟨Below.refl _ _, h0⟩
  · exact rfl
  · intro ρ w' hc hB h12
    refine chain_run rfl ?_
    exact opk_nilCheck rfl h12 ⟨Below.refl _ _, rfl⟩
  · exact rfl
  · intro ρ w' hc hB h13
    refine chain_run rfl ?_
    exact opk_rd_0 rfl h13 ⟨Below.refl _ _, rfl⟩
  · exact rfl
  · intro ρ w' hc hB h14
    refine chain_run rfl ?_
    exact opk_load_slice rfl h14 ((hB.cell (p := ⟨g, 0, none⟩) Hg.out).trans C0.out) ⟨Below.refl _ _, rfl⟩
  · exact rfl
  · intro ρ w' hc hB h0
    refine chain_run rfl ?_
    exact opk_move rfl ⟨Below.refl _ _, h0⟩
  · exact rfl
  · intro ρ w' hc hB h16
    refine chain_run rfl ?_
    exact opk_nilCheck rfl h16 ⟨Below.refl _ _, rfl⟩
  · exact rfl
  · intro ρ w' hc hB h17
    refine chain_run rfl ?_
    exact opk_rd_1 rfl h17 ⟨Below.refl _ _, by show _ = _; simp⟩
  · exact rfl
  · intro ρ w' hc hB h18
    refine chain_run rfl ?_
    exact opk_load_int rfl h18 ((hB.cell (p := ⟨g, 1, none⟩) Hg.out).trans C1.out) ⟨Below.refl _ _, rfl⟩
  · exact rfl
  · intro ρ w' hc hB h1
    refine chain_run rfl ?_
    exact opk_move rfl ⟨Below.refl _ _, h1⟩
  · exact rfl
  · intro ρ w' hc hB h2
    refine chain_run rfl ?_
    exact opk_move rfl ⟨Below.refl _ _, h2⟩
  · exact rfl
  · intro ρ w' hc hB h15 h19 h20 h21
    refine chain_run rfl ?_
    have e15 : ρ (Operand.tmp 15) = .slice A n c := h15
    have e19 : ρ (Operand.tmp 19) = .int .i64 (p : Int) := h19
    have e20 : ρ (Operand.tmp 20) = .int .i64 (count : Int) := h20
    have e21 : ρ (Operand.tmp 21) = .int .i64 (wd : Int) := h21
    refine opk_call rfl hc Try.func42 (by kernel_rfl) (by kernel_rfl) ?_
    rw [show (#[Operand.tmp 15, Operand.tmp 19, Operand.tmp 20, Operand.tmp 21] : Array Operand).map ρ = #[.slice A n c, .int .i64 (p : Int), .int .i64 (count : Int), .int .i64 (wd : Int)] from by simp [e15, e19, e20, e21]]
    refine (Hget.out w' (Hr.out.sl.keep hB)).mono ?_
    rintro e w2 ⟨A2, c2, rfl, hs2, hb2⟩
    exact ⟨_, rfl, hb2, A2, c2, rfl, hs2.mono hB.size⟩
  · exact rfl
  · intro ρ w' hc hB h22
    refine chain_run rfl ?_
    exact opk_move rfl ⟨Below.refl _ _, h22⟩
  · exact rfl
  · intro ρ w' hc hB h11
    refine chain_run rfl ?_
    obtain ⟨A2, c2, e2, s2⟩ := h11
    exact opk_extract rfl e2 rfl ⟨Below.refl _ _, s2⟩
  · exact rfl
  · intro ρ w' hc hB h11
    refine chain_run rfl ?_
    obtain ⟨A2, c2, e2, s2⟩ := h11
    exact opk_extract rfl e2 rfl ⟨Below.refl _ _, rfl⟩
  · exact rfl
  · intro ρ w' hc hB h11
    refine chain_run rfl ?_
    obtain ⟨A2, c2, e2, s2⟩ := h11
    exact opk_extract rfl e2 rfl ⟨Below.refl _ _, rfl⟩
  · exact rfl
  · intro ρ w' hc hB h23
    refine chain_run rfl ?_
    exact opk_assign rfl ⟨Below.refl _ _, h23⟩
  · exact rfl
  · intro ρ w' hc hB h24
    refine chain_run rfl ?_
    exact opk_assign rfl ⟨Below.refl _ _, h24⟩
  · exact rfl
  · intro ρ w' hc hB h25
    refine chain_run rfl ?_
    exact opk_assign rfl ⟨Below.refl _ _, h25⟩
  · exact rfl
  intro a' w2 hbe hsz hd hF hU
  have o8 : w2.ownsRow w.heap.size 26 1 (a'.tmps.getD 8 undef) k (nats .u64 xs) := hF 15 _ 8 rfl rfl
  obtain ⟨A8, c8, e8, s8⟩ := Sl.of_own o8 (nats_one _ _)
  rw [e8] at o8
  have e9 : a'.tmps.getD 9 undef = .int .i64 (nb : Int) := hF 16 _ 9 rfl rfl
  have e10 : a'.tmps.getD 10 undef = .int .i64 (er : Int) := hF 17 _ 10 rfl rfl
  obtain ⟨f, hf, hlit⟩ := act_mask a' _ _ [12, 13, 14, 15, 16, 17, 18, 19, 20, 21, 22, 11, 23, 24, 25, 8, 9, 10] [false, false, false, false, false, false, false, false, true, true, true, true, true, true, true, true, true, true, true, true, true, true, true, true, true, true, false, false, false, false, false, false, false, false, false, false] hsz hd rfl rfl (fun t ht => hU t (by
    intro i o ho hod
    have := List.mem_filterMap.2 ⟨o, List.mem_of_getElem? ho, hod⟩
    revert this
    exact fun h => ht (by simpa using h)))
  replace hlit : a' = ⟨#[_, _, _, _, _, _, _, _, f 8, f 9, f 10, f 11, f 12, f 13, f 14, f 15, f 16, f 17, f 18, f 19, f 20, f 21, f 22, f 23, f 24, f 25, _, _, _, _, _, _, _, _, _, _], _⟩ := hlit.trans (by rfl)
  rw [← hf] at e8 e9 e10
  rw [hlit, e8, e9, e10]
  clear hF hU hlit hf hsz hd e8 e9 e10
  have hrd : RdTo w g A n c bs p sg w2 := (RdTo.refl Hr.out).below hbe
  have d1 := hrd.1.c1
  have f1 := hrd.1.fz1
  have hg2 := hrd.1.lt
  have Hrd := Lib.hid hrd
  have Ho8 := Lib.hid o8
  clear hrd s8 o8 hbe
  go_wp2_with fail
  go_ret2
  have h2 := Hrd.out.set1 (p' := p + nb) (v := (p : Int) + (nb : Int)) (by omega) hpn
  exact ⟨A8, c8, rfl, ownsRow_setCell_below Ho8.out Hg.out _, h2⟩
end Go.Proofs.Ytehcbgnoiogncaa
