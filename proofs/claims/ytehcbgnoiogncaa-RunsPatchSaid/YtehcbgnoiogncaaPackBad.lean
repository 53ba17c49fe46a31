/- What Put and Get, and the references' own, answer to numbers that may not be. -/
import Derived.Test.YtehcbgnoiogncaaPackWid
import Derived.Test.YtehcbgnoiogncaaClone
namespace Go.Proofs.Ytehcbgnoiogncaa
open Go.RowKit
set_option linter.unusedVariables false

set_option maxHeartbeats 800000 in
theorem rput_bad (A : Option Addr) (n c : Nat) (bs : List Value) (A2 : Option Addr) (n2 c2 : Nat) (width : Int) (w : World) (hb : Sl w A n c bs) (hw : width < 0 ∨ 64 < width) :
    Calls Try.prog 14 #[.slice A n c, .slice A2 n2 c2, .int .i64 width] w fun e w' => ∃ A' m c', e = .returned (.slice A' m c') ∧ Sl w' A' m c' bs ∧ Below w.heap.size w w' := by
  have H1 := Lib.hid hb
  clear hb
  rcases hw with hw | hw
  all_goals
    go_enter Try.func14, Try.ntmps14
    go_wp2_with fail
    go_ret
    exact ⟨_, _, _, rfl, H1.out, Below.refl _ _⟩

set_option maxHeartbeats 1600000 in
theorem get_bad (A : Option Addr) (n c : Nat) (bs : List Value) (at_ count width : Int) (w : World) (hb : Sl w A n c bs) (hn : n ≤ 100000000000000) (h : getE n at_ count width = 1) :
    Calls Try.prog 42 #[.slice A n c, .int .i64 at_, .int .i64 count, .int .i64 width] w fun e w' =>
      e = .returned (.tuple #[.slice none 0 0, .int .i64 0, .int .i64 1]) ∧ Below w.heap.size w w' := by
  have hx : at_ < 0 ∨ (n : Int) < at_ ∨ count < 0 ∨ 1048576 < count ∨ width < 0 ∨ 64 < width := by
    unfold getE at h
    split at h
    · assumption
    · split at h <;> simp at h
  clear h hb
  by_cases h1 : at_ < 0
  · clear hx
    go_enter Try.func42, Try.ntmps42
    go_wp2_with fail
    go_ret3
    exact ⟨rfl, Below.refl _ _⟩
  by_cases h2 : (n : Int) < at_
  · clear hx
    go_enter Try.func42, Try.ntmps42
    go_wp2_with fail
    go_ret3
    exact ⟨rfl, Below.refl _ _⟩
  by_cases h3 : count < 0
  · clear hx
    go_enter Try.func42, Try.ntmps42
    go_wp2_with fail
    go_ret3
    exact ⟨rfl, Below.refl _ _⟩
  by_cases h4 : 1048576 < count
  · clear hx
    go_enter Try.func42, Try.ntmps42
    go_wp2_with fail
    go_ret3
    exact ⟨rfl, Below.refl _ _⟩
  by_cases h5 : width < 0
  · clear hx
    go_enter Try.func42, Try.ntmps42
    go_wp2_with fail
    go_ret3
    exact ⟨rfl, Below.refl _ _⟩
  have h6 : 64 < width := by omega
  clear hx
  go_enter Try.func42, Try.ntmps42
  go_wp2_with fail
  go_ret3
  exact ⟨rfl, Below.refl _ _⟩

set_option maxHeartbeats 800000 in
theorem get_short (A : Option Addr) (n c : Nat) (bs : List Value) (at_ count width : Int) (w : World) (hb : Sl w A n c bs) (hn : n ≤ 100000000000000) (h : getE n at_ count width = 3) :
    Calls Try.prog 42 #[.slice A n c, .int .i64 at_, .int .i64 count, .int .i64 width] w fun e w' =>
      e = .returned (.tuple #[.slice none 0 0, .int .i64 0, .int .i64 3]) ∧ Below w.heap.size w w' := by
  have hx : (0 ≤ at_ ∧ at_ ≤ (n : Int) ∧ 0 ≤ count ∧ count ≤ 1048576 ∧ 0 ≤ width ∧ width ≤ 64) ∧ (n : Int) - at_ < bytesF count width := by
    unfold getE at h
    split at h
    · simp at h
    · split at h
      · exact ⟨by omega, by assumption⟩
      · simp at h
  clear h hb
  obtain ⟨⟨h1, h2, h3, h4, h5, h6⟩, h7⟩ := hx
  generalize hbz : bytesF count width = bz at *
  have Hbz := Lib.hid hbz
  clear hbz
  have hby : ∀ W : World, Calls Try.prog 48 #[.int .i64 count, .int .i64 width] W fun e w' => e = .returned (.int .i64 bz) ∧ W = w' := fun W => by rw [← Hbz.out]; exact bytes_p _ _ _
  have Hby := Lib.hid hby
  clear hby
  go_enter Try.func42, Try.ntmps42
  go_wp2_with (go_at_call 48; refine (Hby.out _).mono ?_; rintro e w1 ⟨rfl, rfl⟩)
  go_ret3
  exact ⟨rfl, Below.refl _ _⟩

end Go.Proofs.Ytehcbgnoiogncaa
