/- rle2's reader: what its methods do. -/
import Derived.Test.YtehcbgnoiogncaaRunMath
import Derived.Test.YtehcbgnoiogncaaPackGet
import Derived.Test.YtehcbgnoiogncaaPackBad
import Derived.Test.YtehcbgnoiogncaaOps5
import Derived.Test.YtehcbgnoiogncaaBitsI
namespace Go.Proofs.Ytehcbgnoiogncaa
open Go.RowKit
open PackMath
set_option linter.unusedVariables false

/-- A reader: its block, what it reads, where it is. -/
structure Rd (w : World) (g : Nat) (A : Option Addr) (n c : Nat) (bs : List Nat) (p : Nat) (sg : Bool) : Prop where
  box : w.heap[g]? = some (.cells #[.slice A n c, .int .i64 (p : Int), .bool sg] 58 (0, 0))
  sl : Sl w A n c (nats .u8 bs)
  ne : ∀ ad, A = some ad → ad.block ≠ g
  b8 : ∀ x ∈ bs, x < 256
  few : n ≤ 1000000000
  le : p ≤ n
theorem Rd.len {w : World} {g : Nat} {A : Option Addr} {n c : Nat} {bs : List Nat} {p : Nat} {sg : Bool} (h : Rd w g A n c bs p sg) : bs.length = n := by
  have := h.sl.len
  rwa [nats_length] at this
theorem Rd.lt {w : World} {g : Nat} {A : Option Addr} {n c : Nat} {bs : List Nat} {p : Nat} {sg : Bool} (h : Rd w g A n c bs p sg) : g < w.heap.size := (Array.getElem?_eq_some_iff.1 h.box).1
theorem Rd.c0 {w : World} {g : Nat} {A : Option Addr} {n c : Nat} {bs : List Nat} {p : Nat} {sg : Bool} (h : Rd w g A n c bs p sg) : w.cell? ⟨g, 0, none⟩ = some (.slice A n c) := by rw [cell_of_row _ _ _ _ _ _ h.box]; rfl
theorem Rd.c1 {w : World} {g : Nat} {A : Option Addr} {n c : Nat} {bs : List Nat} {p : Nat} {sg : Bool} (h : Rd w g A n c bs p sg) : w.cell? ⟨g, 1, none⟩ = some (.int .i64 (p : Int)) := by rw [cell_of_row _ _ _ _ _ _ h.box]; rfl
theorem Rd.c2 {w : World} {g : Nat} {A : Option Addr} {n c : Nat} {bs : List Nat} {p : Nat} {sg : Bool} (h : Rd w g A n c bs p sg) : w.cell? ⟨g, 2, none⟩ = some (.bool sg) := by rw [cell_of_row _ _ _ _ _ _ h.box]; rfl
theorem Rd.fz1 {w : World} {g : Nat} {A : Option Addr} {n c : Nat} {bs : List Nat} {p : Nat} {sg : Bool} (h : Rd w g A n c bs p sg) : w.frozen? ⟨g, 1, none⟩ = false := frozen_of_row _ _ _ _ _ h.box
theorem Rd.at_ {w : World} {g : Nat} {A : Option Addr} {n c : Nat} {bs : List Nat} {p : Nat} {sg : Bool} (h : Rd w g A n c bs p sg) (hn : 0 < n) : ∃ b off, A = some ⟨b, off, none⟩ ∧ b ≠ g ∧ b < w.heap.size ∧ ∀ j, j < n → w.cell? ⟨b, off + j, none⟩ = some (.int .u8 ((bs.getD j 0 : Nat) : Int)) := by
  obtain ⟨b, off, hA, hb, hc⟩ := h.sl.at_ hn
  refine ⟨b, off, hA, h.ne _ hA, hb, fun j hj => ?_⟩
  rw [hc j hj, nats_getD _ _ _ (by rw [h.len]; exact hj)]
/-- Behind a frame that leaves the reader, or sets its place. -/
theorem Rd.grown {w w' : World} {g : Nat} {A : Option Addr} {n c : Nat} {bs : List Nat} {p p' : Nat} {sg : Bool} (h : Rd w g A n c bs p sg) (hg : w.grownBy w' (some g)) (hb : w'.heap[g]? = some (.cells #[.slice A n c, .int .i64 (p' : Int), .bool sg] 58 (0, 0))) (hle : p' ≤ n) : Rd w' g A n c bs p' sg :=
  ⟨hb, ⟨h.sl.len, h.sl.le, h.sl.max, h.sl.nil, fun ad hA j u hu => by
    have := h.sl.cells ad hA j u hu
    exact (hg.cell_far _ (World.block_lt_of_cell? w _ this) (by rw [block_add]; intro e; injection e with e; exact h.ne ad hA e)).trans this, h.sl.one⟩, h.ne, h.b8, h.few, hle⟩
theorem Rd.keep {w w' : World} {g : Nat} {A : Option Addr} {n c : Nat} {bs : List Nat} {p : Nat} {sg : Bool} (h : Rd w g A n c bs p sg) (hb : Below w.heap.size w w') : Rd w' g A n c bs p sg :=
  ⟨(hb.block _ h.lt).trans h.box, h.sl.keep hb, h.ne, h.b8, h.few, h.le⟩
theorem grown_of_below {w w' : World} (h : Below w.heap.size w w') (g : Option Nat) : w.grownBy w' g := ⟨h.os, h.tape, h.output, h.size, fun k hk _ => h.block k hk⟩
theorem grown_set (w : World) (g i : Nat) (v : Value) : w.grownBy (w.setCell ⟨g, i, none⟩ v) (some g) :=
  ⟨rfl, rfl, rfl, by simp, fun k hk hne => heap_setCell_other _ _ _ _ (by intro e; subst e; exact hne rfl)⟩
theorem Rd.set {w : World} {g : Nat} {A : Option Addr} {n c : Nat} {bs : List Nat} {p p' : Nat} {sg : Bool} (h : Rd w g A n c bs p sg) (hle : p' ≤ n) : Rd (w.setCell ⟨g, 1, none⟩ (.int .i64 (p' : Int))) g A n c bs p' sg :=
  h.grown (grown_set _ _ _ _) (heap_setCell_same _ _ _ _ _ _ h.box) hle
/-- Behind one reader's step: the new place, nothing else. -/
def RdTo (w : World) (g : Nat) (A : Option Addr) (n c : Nat) (bs : List Nat) (p : Nat) (sg : Bool) (w' : World) : Prop := Rd w' g A n c bs p sg ∧ w.grownBy w' (some g)

theorem Rd.drewN {w : World} {g : Nat} {A : Option Addr} {n c : Nat} {bs : List Nat} {p : Nat} {sg : Bool} (h : Rd w g A n c bs p sg) (q : Nat) : Rd (w.drewN q) g A n c bs p sg := h.keep (below_drewN w q)
theorem RdTo.refl {w : World} {g : Nat} {A : Option Addr} {n c : Nat} {bs : List Nat} {p : Nat} {sg : Bool} (h : Rd w g A n c bs p sg) : RdTo w g A n c bs p sg w := ⟨h, World.grownBy.refl w _⟩
theorem RdTo.trans {w w1 w2 : World} {g : Nat} {A : Option Addr} {n c : Nat} {bs : List Nat} {p p' : Nat} {sg : Bool} (h : RdTo w g A n c bs p sg w1) (k : RdTo w1 g A n c bs p' sg w2) : RdTo w g A n c bs p' sg w2 := ⟨k.1, World.grownBy.trans h.2 k.2⟩
theorem RdTo.below {w w1 w2 : World} {g : Nat} {A : Option Addr} {n c : Nat} {bs : List Nat} {p : Nat} {sg : Bool} (h : RdTo w g A n c bs p sg w1) (k : Below w1.heap.size w1 w2) : RdTo w g A n c bs p sg w2 := ⟨h.1.keep k, World.grownBy.trans h.2 (grown_of_below k _)⟩
theorem RdTo.set {w w1 : World} {g : Nat} {A : Option Addr} {n c : Nat} {bs : List Nat} {p p' : Nat} {sg : Bool} (h : RdTo w g A n c bs p sg w1) (hle : p' ≤ n) : RdTo w g A n c bs p' sg (w1.setCell ⟨g, 1, none⟩ (.int .i64 (p' : Int))) := ⟨h.1.set hle, World.grownBy.trans h.2 (grown_set _ _ _ _)⟩
theorem RdTo.drewN {w w1 : World} {g : Nat} {A : Option Addr} {n c : Nat} {bs : List Nat} {p : Nat} {sg : Bool} (h : RdTo w g A n c bs p sg w1) (q : Nat) : RdTo w g A n c bs p sg (w1.drewN q) := h.below (below_drewN w1 q)

theorem RdTo.set1 {w w1 : World} {g : Nat} {A : Option Addr} {n c : Nat} {bs : List Nat} {p p' : Nat} {sg : Bool} (h : RdTo w g A n c bs p sg w1) {v : Int} (hv : v = (p' : Int)) (hle : p' ≤ n) : RdTo w g A n c bs p' sg (w1.setCell ⟨g, 1, none⟩ (.int .i64 v)) := by
  subst hv
  exact h.set hle
theorem Rd.x8 {w : World} {g : Nat} {A : Option Addr} {n c : Nat} {bs : List Nat} {p : Nat} {sg : Bool} (h : Rd w g A n c bs p sg) (j : Nat) : bs.getD j 0 < 256 := by
  rcases Nat.lt_or_ge j bs.length with hj | hj
  · rw [getD_eq _ _ hj]; exact h.b8 _ (List.getElem_mem hj)
  · simp [hj]

set_option maxHeartbeats 1600000 in
set_option maxRecDepth 4000 in
theorem rdbyte_ok {w : World} {g : Nat} {A : Option Addr} {n c : Nat} {bs : List Nat} {p : Nat} {sg : Bool} (h : Rd w g A n c bs p sg) (hp : p < n) :
    Calls Try.prog 28 #[.pointer (some ⟨g, 0, none⟩)] w fun e w' => e = .returned (.tuple #[.int .i64 ((bs.getD p 0 : Nat) : Int), .int .i64 0]) ∧ RdTo w g A n c bs (p + 1) sg w' := by
  obtain ⟨b, off, rfl, hbg, hbw, hcell⟩ := h.at_ (by omega)
  have c0 := h.c0
  have c1 := h.c1
  have f1 := h.fz1
  have hx := hcell p hp
  have hx8 := h.x8 p
  have few := h.few
  have hg := h.lt
  generalize bs.getD p 0 = x at *
  have Hr := Lib.hid h
  clear h hcell
  go_enter Try.func28, Try.ntmps28
  go_wp2_with fail
  go_quiet (fail)
  go_wp2_with fail
  go_quiet (fail)
  go_wp2_with fail
  go_ret2
  exact ⟨rfl, (((RdTo.refl Hr.out).drewN _).set1 (by omega) (by omega)).drewN _⟩

set_option maxHeartbeats 1600000 in
set_option maxRecDepth 4000 in
theorem rdbyte_no {w : World} {g : Nat} {A : Option Addr} {n c : Nat} {bs : List Nat} {p : Nat} {sg : Bool} (h : Rd w g A n c bs p sg) (hp : ¬ p < n) :
    Calls Try.prog 28 #[.pointer (some ⟨g, 0, none⟩)] w fun e w' => e = .returned (.tuple #[.int .i64 0, .int .i64 3]) ∧ RdTo w g A n c bs p sg w' := by
  have c0 := h.c0
  have c1 := h.c1
  have few := h.few
  have hle := h.le
  have Hr := Lib.hid h
  clear h
  go_enter Try.func28, Try.ntmps28
  go_wp2_with fail
  go_quiet (fail)
  go_wp2_with fail
  go_ret2
  exact ⟨rfl, (RdTo.refl Hr.out).drewN _⟩

set_option maxHeartbeats 1600000 in
set_option maxRecDepth 4000 in
theorem rdbig_ok {w : World} {g : Nat} {A : Option Addr} {n c : Nat} {bs : List Nat} {p : Nat} {sg : Bool} (h : Rd w g A n c bs p sg) (m : Nat) (hm : 1 ≤ m) (hm8 : m ≤ 8) (hr : p + m ≤ n) :
    Calls Try.prog 29 #[.pointer (some ⟨g, 0, none⟩), .int .i64 (m : Int)] w fun e w' => e = .returned (.tuple #[.int .u64 ((bigV ((bs.drop p).take m) 0 : Nat) : Int), .int .i64 0]) ∧ RdTo w g A n c bs (p + m) sg w' := by
  have c0 := h.c0
  have c1 := h.c1
  have f1 := h.fz1
  have few := h.few
  have hg := h.lt
  have hb := fun w' (h' : Sl w' A n c (nats .u8 bs)) => bigp A n c bs (p : Int) (m : Int) w' h' h.b8 (by omega) (by omega) (by omega) (by omega)
  have hs : bigS bs (p : Int) (m : Int) = (bigV ((bs.drop p).take m) 0, true) := by
    unfold bigS
    rw [if_neg (by unfold bigOut; rw [h.len]; omega)]
    simp
  rw [hs] at hb
  unfold bigVal at hb
  generalize bigV ((bs.drop p).take m) 0 = V at *
  have Hr := Lib.hid h
  have Hb := Lib.hid hb
  clear h hb hs
  go_enter Try.func29, Try.ntmps29
  go_wp2_with fail
  go_quiet ((go_at_call 40; exact Calls.quiet_of_same (Hb.out _ (Hr.out.drewN _).sl)))
  go_wp2_with fail
  go_ret2
  exact ⟨rfl, ((RdTo.refl Hr.out).drewN _).set1 (by omega) (by omega)⟩

set_option maxHeartbeats 1600000 in
set_option maxRecDepth 4000 in
theorem rdbig_no {w : World} {g : Nat} {A : Option Addr} {n c : Nat} {bs : List Nat} {p : Nat} {sg : Bool} (h : Rd w g A n c bs p sg) (m : Nat) (hm : 1 ≤ m) (hm8 : m ≤ 8) (hr : n < p + m) :
    Calls Try.prog 29 #[.pointer (some ⟨g, 0, none⟩), .int .i64 (m : Int)] w fun e w' => e = .returned (.tuple #[.int .u64 0, .int .i64 3]) ∧ RdTo w g A n c bs p sg w' := by
  have c0 := h.c0
  have c1 := h.c1
  have few := h.few
  have hle := h.le
  have hb := fun w' (h' : Sl w' A n c (nats .u8 bs)) => bigp A n c bs (p : Int) (m : Int) w' h' h.b8 (by omega) (by omega) (by omega) (by omega)
  have hs : bigS bs (p : Int) (m : Int) = (0, false) := by
    unfold bigS
    rw [if_pos (by unfold bigOut; rw [h.len]; omega)]
  rw [hs] at hb
  unfold bigVal at hb
  have Hr := Lib.hid h
  have Hb := Lib.hid hb
  clear h hb hs
  go_enter Try.func29, Try.ntmps29
  go_wp2_with fail
  go_quiet ((go_at_call 40; exact Calls.quiet_of_same (Hb.out _ (Hr.out.drewN _).sl)))
  go_wp2_with fail
  go_ret2
  exact ⟨rfl, (RdTo.refl Hr.out).drewN _⟩

theorem varR_fit (l : List Nat) (i acc : Nat) : (varR l i acc).2.1 ≤ i + l.length ∨ (varR l i acc).2.1 = 0 := by
  induction l generalizing i acc with
  | nil => rw [varR_nil]; exact .inr rfl
  | cons c l ih =>
    unfold varR
    split
    · exact .inr rfl
    · split
      · left; simp only [List.length_cons]; omega
      · have := ih (i + 1) (acc + c % 128 * 2 ^ (7 * i))
        simp only [List.length_cons]
        omega

set_option maxHeartbeats 1600000 in
set_option maxRecDepth 4000 in
theorem rdvar {w : World} {g : Nat} {A : Option Addr} {n c : Nat} {bs : List Nat} {p : Nat} {sg : Bool} (h : Rd w g A n c bs p sg) :
    Calls Try.prog 38 #[.pointer (some ⟨g, 0, none⟩)] w fun e w' => e = .returned (.tuple #[.int .u64 ((varR (bs.drop p) 0 0).1 : Int), .int .i64 ((varR (bs.drop p) 0 0).2.2 : Int)]) ∧ RdTo w g A n c bs (p + (varR (bs.drop p) 0 0).2.1) sg w' := by
  have c0 := h.c0
  have c1 := h.c1
  have f1 := h.fz1
  have few := h.few
  have hle := h.le
  have hg := h.lt
  have hb := fun w' (h' : Sl w' A n c (nats .u8 bs)) => varp A n c bs (p : Int) w' h' h.b8 (by omega) (by omega)
  have hs : varS bs (p : Int) = varR (bs.drop p) 0 0 := by
    unfold varS
    rw [if_neg (by rw [h.len]; omega)]
    simp
  rw [hs] at hb
  unfold varV at hb
  have hfit := varR_fit (bs.drop p) 0 0
  rw [List.length_drop, h.len] at hfit
  generalize varR (bs.drop p) 0 0 = R at *
  obtain ⟨v, s, er⟩ := R
  dsimp only at *
  have hsn : p + s ≤ n := by omega
  have Hr := Lib.hid h
  have Hb := Lib.hid hb
  clear h hb hs hfit
  go_enter Try.func38, Try.ntmps38
  go_wp2_with fail
  go_quiet ((go_at_call 45; exact Calls.quiet_of_same (Hb.out _ (Hr.out.drewN _).sl)))
  go_wp2_with fail
  go_ret2
  exact ⟨rfl, ((RdTo.refl Hr.out).drewN _).set1 (by omega) (by omega)⟩

set_option maxHeartbeats 1600000 in
theorem rdnum_ok {w : World} {g : Nat} {A : Option Addr} {n c : Nat} {bs : List Nat} {p : Nat} {sg : Bool} (h : Rd w g A n c bs p sg) (u : Nat) (hu : u < 18446744073709551616) (v : Int) (hv : numS sg u = some v) :
    Calls Try.prog 30 #[.pointer (some ⟨g, 0, none⟩), .int .u64 (u : Int)] w fun e w' => e = .returned (.tuple #[.int .i64 v, .bool true]) ∧ w = w' := by
  have c2 := h.c2
  clear h
  unfold numS at hv
  cases sg with
  | true =>
    rw [if_pos rfl] at hv
    injection hv with hv
    subst hv
    go_enter Try.func30, Try.ntmps30
    go_wp2_with fail
    refine (zag_p _ _ (by omega) (by omega)).mono ?_
    rintro e w' ⟨rfl, rfl⟩
    go_wp2_with fail
    go_ret2
    exact ⟨rfl, rfl⟩
  | false =>
    rw [if_neg (by simp)] at hv
    by_cases hle : u ≤ 9223372036854775807
    · rw [if_pos hle] at hv
      injection hv with hv
      subst hv
      go_enter Try.func30, Try.ntmps30
      go_wp2_with fail
      go_ret2
      exact ⟨by first | rfl | (simp; omega), rfl⟩
    · rw [if_neg hle] at hv
      cases hv

set_option maxHeartbeats 1600000 in
theorem rdnum_no {w : World} {g : Nat} {A : Option Addr} {n c : Nat} {bs : List Nat} {p : Nat} {sg : Bool} (h : Rd w g A n c bs p sg) (u : Nat) (hu : u < 18446744073709551616) (hv : numS sg u = none) :
    Calls Try.prog 30 #[.pointer (some ⟨g, 0, none⟩), .int .u64 (u : Int)] w fun e w' => (∃ z, e = .returned (.tuple #[.int .i64 z, .bool false])) ∧ w = w' := by
  have c2 := h.c2
  clear h
  unfold numS at hv
  cases sg with
  | true => rw [if_pos rfl] at hv; cases hv
  | false =>
    rw [if_neg (by simp)] at hv
    by_cases hle : u ≤ 9223372036854775807
    · rw [if_pos hle] at hv; cases hv
    · have hgt : 9223372036854775807 < u := by omega
      clear hv hle
      go_enter Try.func30, Try.ntmps30
      go_wp2_with fail
      go_ret2
      exact ⟨⟨wrap64 (u : Int), by first | rfl | (simp; omega)⟩, rfl⟩
end Go.Proofs.Ytehcbgnoiogncaa
