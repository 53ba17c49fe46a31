/- pb.Uint, Int, Text: what they answer. -/
import Derived.Test.YtihclbiohljmlaaPbLast
namespace Go.Proofs.Ytihclbiohljmlaa
open Go.RowKit
set_option linter.unusedVariables false

def uOf (r : Option FieldV) : Nat := (r.map FieldV.u).getD 0
def bOf (r : Option FieldV) : List Nat := (r.map FieldV.b).getD []
theorem lastV_fld (r : Option FA) : lastV r = fldV (r.getD noFA).f (r.getD noFA).A (r.getD noFA).c := by cases r <;> rfl
theorem uOf_getD (r : Option FA) : (r.getD noFA).f.u = uOf (r.map FA.f) := by cases r <;> rfl
theorem bOf_getD (r : Option FA) : (r.getD noFA).f.b = bOf (r.map FA.f) := by cases r <;> rfl
theorem noFA_txt (w : World) : Txt w noFA.A noFA.c noFA.f.b := Txt.none_ w
theorem last_txt {w : World} {A : Option Addr} {n c : Nat} {ps : List FA} (hs : Flds w A n c ps) (num : Int) (wire : Nat) : Txt w ((lastA ps num wire).getD noFA).A ((lastA ps num wire).getD noFA).c ((lastA ps num wire).getD noFA).f.b := by
  cases h : lastA ps num wire with
  | none => exact noFA_txt w
  | some p => exact hs.txt p (lastA_mem h).1

set_option maxHeartbeats 1600000 in
theorem uint_p (A : Option Addr) (n c : Nat) (ps : List FA) (num : Int) (w : World) (hs : Flds w A n c ps) (hn : n ≤ 100000000) :
    Calls Try.prog 13 #[.slice A n c, .int .i64 num] w fun e W' => e = .returned (.tuple #[.int .u64 ((uOf (lastF (ps.map FA.f) num 0) : Nat) : Int), .bool (lastF (ps.map FA.f) num 0).isSome]) ∧ Below w.heap.size w W' := by
  have hl := last_p A n c ps num 0 w hs hn
  rw [lastV_fld] at hl
  rw [← lastA_f, ← uOf_getD, Option.isSome_map]
  generalize (lastA ps num 0).isSome = bo at *
  generalize (lastA ps num 0).getD noFA = p at *
  obtain ⟨⟨nm, wr, u, b, at_⟩, pA, pc⟩ := p
  dsimp only
  have Hl := Lib.hid hl
  clear hl
  go_enter Try.func13, Try.ntmps13
  go_wp2_with fail
  refine Hl.out.mono ?_
  rintro e w1 ⟨rfl, hb1⟩
  unfold fldV
  dsimp only
  go_wp2_with fail
  go_ret2
  exact ⟨rfl, hb1.alloc hb1.size _⟩

set_option maxHeartbeats 1600000 in
theorem int_p (A : Option Addr) (n c : Nat) (ps : List FA) (num : Int) (w : World) (hs : Flds w A n c ps) (hn : n ≤ 100000000) (hu : ∀ p ∈ ps, p.f.u < 18446744073709551616) :
    Calls Try.prog 15 #[.slice A n c, .int .i64 num] w fun e W' => e = .returned (.tuple #[.int .i64 (zagS ((uOf (lastF (ps.map FA.f) num 0) : Nat) : Int)), .bool (lastF (ps.map FA.f) num 0).isSome]) ∧ Below w.heap.size w W' := by
  have hl := last_p A n c ps num 0 w hs hn
  have hub : ((lastA ps num 0).getD noFA).f.u < 18446744073709551616 := by
    cases h : lastA ps num 0 with
    | none => decide
    | some p => exact hu p (lastA_mem h).1
  rw [lastV_fld] at hl
  rw [← lastA_f, ← uOf_getD, Option.isSome_map]
  generalize (lastA ps num 0).isSome = bo at *
  generalize (lastA ps num 0).getD noFA = p at *
  obtain ⟨⟨nm, wr, u, b, at_⟩, pA, pc⟩ := p
  dsimp only at *
  have Hl := Lib.hid hl
  have Hub := Lib.hid hub
  clear hl hub
  go_enter Try.func15, Try.ntmps15
  go_wp2_with fail
  refine Hl.out.mono ?_
  rintro e w1 ⟨rfl, hb1⟩
  unfold fldV
  dsimp only
  go_wp2_with fail
  refine (zag_p _ _ (by omega) (by have := Hub.out; omega)).mono ?_
  rintro e w2 ⟨rfl, rfl⟩
  go_wp2_with fail
  go_ret2
  exact ⟨rfl, hb1.alloc hb1.size _⟩

set_option maxHeartbeats 1600000 in
theorem text_p (A : Option Addr) (n c : Nat) (ps : List FA) (num : Int) (w : World) (hs : Flds w A n c ps) (hn : n ≤ 100000000) (hu : ∀ p ∈ ps, p.f.b.length ≤ 1000000000000) :
    Calls Try.prog 17 #[.slice A n c, .int .i64 num] w fun e W' => ∃ B cB m, e = .returned (.tuple #[.slice B m cB, .bool (lastF (ps.map FA.f) num 2).isSome]) ∧ m = (bOf (lastF (ps.map FA.f) num 2)).length ∧ Txt W' B cB (bOf (lastF (ps.map FA.f) num 2)) ∧ Below w.heap.size w W' := by
  have hl := last_p A n c ps num 2 w hs hn
  have ht := last_txt hs num 2
  have hub : ((lastA ps num 2).getD noFA).f.b.length ≤ 1000000000000 := by
    cases h : lastA ps num 2 with
    | none => decide
    | some p => exact hu p (lastA_mem h).1
  rw [lastV_fld] at hl
  rw [← lastA_f, ← bOf_getD, Option.isSome_map]
  generalize (lastA ps num 2).isSome = bo at *
  generalize (lastA ps num 2).getD noFA = p at *
  obtain ⟨⟨nm, wr, u, b, at_⟩, pA, pc⟩ := p
  dsimp only at *
  have Hl := Lib.hid hl
  have Ht := Lib.hid ht
  clear hl ht
  go_enter Try.func17, Try.ntmps17
  go_wp2_with fail
  refine Hl.out.mono ?_
  rintro e w1 ⟨rfl, hb1⟩
  unfold fldV
  dsimp only
  generalize hbl : b.length = bl at *
  have Hbl := Lib.hid hbl
  clear hbl
  go_wp2_with fail
  have hs1 : Sl w1 pA bl pc (nats .u8 b) := by have := Ht.out.sl.keep hb1; rw [Hbl.out] at this; exact this
  refine (clone_u8 pA bl pc (nats .u8 b) _ (hs1.keep (below_new _ _)) (by omega)).mono ?_
  rintro e w2 ⟨ov, rfl, hown, hb2⟩
  obtain ⟨B, cB, rfl, sB⟩ := Sl.of_own hown (nats_one _ _)
  have tB := Typ.of_own hown
  have Hown := Lib.hid hown
  have HtB := Lib.hid tB
  clear hown tB
  go_wp2_with fail
  refine (clip_u8 B bl cB _ _ sB).mono ?_
  rintro e w3 ⟨rfl, sB3, rfl⟩
  go_wp2_with fail
  go_ret2
  have hb : b.length = bl := Hbl.out
  exact ⟨B, bl, bl, rfl, hb.symm, ⟨by rw [hb]; exact sB3, HtB.out⟩, (hb1.alloc hb1.size _).trans (hb2.mono (by have := hb1.size; simp; omega))⟩
end Go.Proofs.Ytihclbiohljmlaa
