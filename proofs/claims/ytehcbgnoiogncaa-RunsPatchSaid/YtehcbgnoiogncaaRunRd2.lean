/- rle2's reader: packed numbers, a sum, a head. -/
import Derived.Test.YtehcbgnoiogncaaRunRd
namespace Go.Proofs.Ytehcbgnoiogncaa
open Go.RowKit
open PackMath
set_option linter.unusedVariables false

theorem Try.info2 : (Try.prog.info? 2).map (fun i => (i.zero, i.size, i.bytes)) = some (some (.int .i64 0), 1, 8) := by kernel_rfl

set_option maxHeartbeats 1600000 in
set_option maxRecDepth 4000 in
theorem rdhead_ok {w : World} {g : Nat} {A : Option Addr} {n c : Nat} {bs : List Nat} {p : Nat} {sg : Bool} (h : Rd w g A n c bs p sg) (hp : p + 2 ≤ n) :
    Calls Try.prog 32 #[.pointer (some ⟨g, 0, none⟩)] w fun e w' => e = .returned (.tuple #[.int .i64 (hdCode bs p : Int), .int .i64 (hdCount bs p : Int), .int .i64 0]) ∧ RdTo w g A n c bs (p + 2) sg w' := by
  have x8 := h.x8 p
  have y8 := h.x8 (p + 1)
  have h1 := rdbyte_ok h (by omega)
  have h2 := fun w' (h' : Rd w' g A n c bs (p + 1) sg) => rdbyte_ok h' (by omega)
  unfold hdCode hdCount
  generalize bs.getD p 0 = x at *
  generalize bs.getD (p + 1) 0 = y at *
  have e1 := and_i64_31 (x / 2) (by omega)
  rw [Int.natCast_ediv] at e1
  have e3 := or_i64_256 (x % 2) y (by omega) y8
  rw [Int.natCast_emod] at e3
  obtain ⟨E, hE⟩ : ∃ E, x % 2 * 256 + y = E := ⟨_, rfl⟩
  obtain ⟨C, hC⟩ : ∃ C, x / 2 % 32 = C := ⟨_, rfl⟩
  rw [hE] at e3 ⊢
  rw [hC] at e1 ⊢
  have hE2 : E ≤ 511 := by omega
  have hC2 : C < 32 := by omega
  have H2 := Lib.hid h2
  have e1' : bits .and .i64 ((x : Int) / 2) 31 = (C : Int) := e1
  have e3' : bits .or .i64 ((x : Int) % 2 * 256) (y : Int) = (E : Int) := e3
  have e2' : bits .and .i64 (x : Int) 1 = (x : Int) % 2 := by rw [and_i64_1 x x8, Int.natCast_emod]; rfl
  clear h2 e1 e3 hE hC
  go_enter Try.func32, Try.ntmps32
  go_wp2_with fail
  refine h1.mono ?_
  rintro e w1 ⟨rfl, t1⟩
  have T1 := Lib.hid t1
  clear t1 h1
  go_wp2_with fail
  refine (H2.out w1 T1.out.1).mono ?_
  rintro e w2 ⟨rfl, t2⟩
  have T2 := Lib.hid (T1.out.trans t2)
  clear t2
  go_wp2_with fail
  go_ret3
  exact ⟨by first | rfl | simp, T2.out⟩

/-- A head that is not there. -/
def HeadNo (w : World) (g : Nat) (A : Option Addr) (n c : Nat) (bs : List Nat) (sg : Bool) (e : Ending) (w' : World) : Prop :=
  ∃ (x y : Int) (p' : Nat), e = .returned (.tuple #[.int .i64 x, .int .i64 y, .int .i64 3]) ∧ RdTo w g A n c bs p' sg w'
set_option maxHeartbeats 1600000 in
set_option maxRecDepth 4000 in
theorem rdhead_no {w : World} {g : Nat} {A : Option Addr} {n c : Nat} {bs : List Nat} {p : Nat} {sg : Bool} (h : Rd w g A n c bs p sg) (hp : n < p + 2) :
    Calls Try.prog 32 #[.pointer (some ⟨g, 0, none⟩)] w fun e w' => HeadNo w g A n c bs sg e w' := by
  by_cases h0 : p < n
  · have x8 := h.x8 p
    have h1 := rdbyte_ok h h0
    have h2 := fun w' (h' : Rd w' g A n c bs (p + 1) sg) => rdbyte_no h' (by omega)
    generalize bs.getD p 0 = x at *
    have H2 := Lib.hid h2
    clear h2
    go_enter Try.func32, Try.ntmps32
    go_wp2_with fail
    refine h1.mono ?_
    rintro e w1 ⟨rfl, t1⟩
    have T1 := Lib.hid t1
    clear t1 h1
    go_wp2_with fail
    refine (H2.out w1 T1.out.1).mono ?_
    rintro e w2 ⟨rfl, t2⟩
    have T2 := Lib.hid (T1.out.trans t2)
    clear t2
    go_wp2_with fail
    go_ret3
    exact ⟨_, _, _, rfl, T2.out⟩
  · have h1 := rdbyte_no h h0
    have h2 := fun w' (h' : Rd w' g A n c bs p sg) => rdbyte_no h' h0
    have H2 := Lib.hid h2
    clear h2
    go_enter Try.func32, Try.ntmps32
    go_wp2_with fail
    refine h1.mono ?_
    rintro e w1 ⟨rfl, t1⟩
    have T1 := Lib.hid t1
    clear t1 h1
    go_wp2_with fail
    refine (H2.out w1 T1.out.1).mono ?_
    rintro e w2 ⟨rfl, t2⟩
    have T2 := Lib.hid (T1.out.trans t2)
    clear t2
    go_wp2_with fail
    go_ret3
    exact ⟨_, _, _, rfl, T2.out⟩

/-- A number put to another one. -/
def putS (sg : Bool) (a b : Int) : Option Int := match addS a b with | none => none | some s => if sg = false ∧ s < 0 then none else some s
theorem addS_in {a b s : Int} (h : addS a b = some s) : InI s := by
  unfold addS at h
  split at h
  · injection h with h; subst h; assumption
  · cases h
set_option maxHeartbeats 1600000 in
theorem rdput_ok {w : World} {g : Nat} {A : Option Addr} {n c : Nat} {bs : List Nat} {p : Nat} {sg : Bool} (h : Rd w g A n c bs p sg) (a b : Int) (ha : InI a) (hb : InI b) (s : Int) (hs : putS sg a b = some s) :
    Calls Try.prog 37 #[.pointer (some ⟨g, 0, none⟩), .int .i64 a, .int .i64 b] w fun e w' => e = .returned (.tuple #[.int .i64 s, .bool true]) ∧ w = w' := by
  have c2 := h.c2
  have had := add_p a b w ha hb
  unfold putS at hs
  cases hq : addS a b with
  | none => rw [hq] at hs; cases hs
  | some z =>
    rw [hq] at hs had
    unfold optV at had
    dsimp only [Option.getD, Option.isSome] at hs had
    by_cases hno : sg = false ∧ z < 0
    · rw [if_pos hno] at hs; cases hs
    · rw [if_neg hno] at hs
      injection hs with hs
      subst hs
      have Had := Lib.hid had
      clear had hq h
      cases sg with
      | true =>
        clear hno
        go_enter Try.func37, Try.ntmps37
        go_wp2_with fail
        refine Had.out.mono ?_
        rintro e w' ⟨rfl, rfl⟩
        go_wp2_with fail
        go_ret2
        exact ⟨rfl, rfl⟩
      | false =>
        have hz : 0 ≤ z := by
          rcases Int.lt_or_le z 0 with hz | hz
          · exact absurd ⟨rfl, hz⟩ hno
          · exact hz
        clear hno
        go_enter Try.func37, Try.ntmps37
        go_wp2_with fail
        refine Had.out.mono ?_
        rintro e w' ⟨rfl, rfl⟩
        go_wp2_with fail
        go_ret2
        exact ⟨by first | rfl | (simp; omega), rfl⟩
set_option maxHeartbeats 1600000 in
theorem rdput_no {w : World} {g : Nat} {A : Option Addr} {n c : Nat} {bs : List Nat} {p : Nat} {sg : Bool} (h : Rd w g A n c bs p sg) (a b : Int) (ha : InI a) (hb : InI b) (hs : putS sg a b = none) :
    Calls Try.prog 37 #[.pointer (some ⟨g, 0, none⟩), .int .i64 a, .int .i64 b] w fun e w' => (∃ z, e = .returned (.tuple #[.int .i64 z, .bool false])) ∧ w = w' := by
  have c2 := h.c2
  have had := add_p a b w ha hb
  unfold putS at hs
  cases hq : addS a b with
  | none =>
    rw [hq] at had
    unfold optV at had
    dsimp only [Option.getD, Option.isSome] at had
    have Had := Lib.hid had
    clear had hq h hs
    go_enter Try.func37, Try.ntmps37
    go_wp2_with fail
    refine Had.out.mono ?_
    rintro e w' ⟨rfl, rfl⟩
    go_wp2_with fail
    go_ret2
    exact ⟨⟨0, rfl⟩, rfl⟩
  | some z =>
    rw [hq] at hs had
    unfold optV at had
    dsimp only [Option.getD, Option.isSome] at hs had
    by_cases hno : sg = false ∧ z < 0
    · obtain ⟨rfl, hz⟩ := hno
      have hz2 : ¬ 0 ≤ z := by omega
      have hz3 : decide (0 ≤ z) = false := decide_eq_false hz2
      have Had := Lib.hid had
      clear had hq h hs
      go_enter Try.func37, Try.ntmps37
      go_wp2_with fail
      refine Had.out.mono ?_
      rintro e w' ⟨rfl, rfl⟩
      go_wp2_with fail
      go_ret2
      exact ⟨⟨z, by first | rfl | (simp; omega)⟩, rfl⟩
    · rw [if_neg hno] at hs; cases hs
end Go.Proofs.Ytehcbgnoiogncaa
