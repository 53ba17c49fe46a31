/- pack.Bytes, Width, Code, Fit, and the references' own: what they answer. -/
import Derived.Test.YtehcbgnoiogncaaBase
namespace Go.Proofs.Ytehcbgnoiogncaa
open Go.RowKit

def bytesF (count width : Int) : Int := if count < 0 ∨ 1048576 < count ∨ width < 0 ∨ 64 < width then 0 else (count * width + 7) / 8

def widthF (c : Int) : Int :=
  if c < 0 ∨ 32 ≤ c then 0 else if c < 24 then c + 1 else if c = 24 then 26 else if c = 25 then 28 else if c = 26 then 30 else if c = 27 then 32
  else if c = 28 then 40 else if c = 29 then 48 else if c = 30 then 56 else 64

def codeO (n : Int) : Option Nat := (List.range 32).find? fun (c : Nat) => widthF (c : Int) == n
def fitO (n : Int) : Option Nat := (List.range 32).find? fun (c : Nat) => decide (n ≤ widthF (c : Int))
def fitF (n : Int) : Int := match fitO n with | some c => widthF (c : Int) | none => 64

def getE (n at_ count width : Int) : Int := if at_ < 0 ∨ n < at_ ∨ count < 0 ∨ 1048576 < count ∨ width < 0 ∨ 64 < width then 1 else if n - at_ < bytesF count width then 3 else 0

theorem find_range {p : Nat → Bool} {n k : Nat} (hk : k < n) (hp : p k = true) (hno : ∀ j, j < k → p j = false) : (List.range n).find? p = some k := by
  rw [List.find?_range_eq_some]
  exact ⟨hp, List.mem_range.2 hk, fun j hj => by rw [hno j hj]; rfl⟩

theorem find_range_none {p : Nat → Bool} {n : Nat} (hno : ∀ j, j < n → p j = false) : (List.range n).find? p = none := by
  rw [List.find?_eq_none]
  intro x hx
  rw [hno x (List.mem_range.1 hx)]
  decide

theorem widthF_bd (c : Int) : 0 ≤ widthF c ∧ widthF c ≤ 64 := by
  unfold widthF
  repeat' split
  all_goals omega

theorem ret_int {k : IntKind} {a b : Int} (h : a = b) : Ending.returned (.int k a) = .returned (.int k b) := by rw [h]

set_option maxHeartbeats 400000 in
theorem bytes_p (count width : Int) (w : World) : Calls Try.prog 48 #[.int .i64 count, .int .i64 width] w fun e w' => e = .returned (.int .i64 (bytesF count width)) ∧ w = w' := by
  by_cases h1 : count < 0
  · have e : bytesF count width = 0 := by unfold bytesF; rw [if_pos (.inl h1)]
    rw [e]
    go_enter Try.func48, Try.ntmps48
    go_wp2
    go_ret
    exact ⟨rfl, rfl⟩
  by_cases h2 : 1048576 < count
  · have e : bytesF count width = 0 := by unfold bytesF; rw [if_pos (.inr (.inl h2))]
    rw [e]
    go_enter Try.func48, Try.ntmps48
    go_wp2
    go_ret
    exact ⟨rfl, rfl⟩
  by_cases h3 : width < 0
  · have e : bytesF count width = 0 := by unfold bytesF; rw [if_pos (.inr (.inr (.inl h3)))]
    rw [e]
    go_enter Try.func48, Try.ntmps48
    go_wp2
    go_ret
    exact ⟨rfl, rfl⟩
  by_cases h4 : 64 < width
  · have e : bytesF count width = 0 := by unfold bytesF; rw [if_pos (.inr (.inr (.inr h4)))]
    rw [e]
    go_enter Try.func48, Try.ntmps48
    go_wp2
    go_ret
    exact ⟨rfl, rfl⟩
  have e : bytesF count width = (count * width + 7) / 8 := by unfold bytesF; rw [if_neg (by omega)]
  have b0 : 0 ≤ count * width := Int.mul_nonneg (by omega) (by omega)
  have b1 : count * width ≤ 1048576 * 64 := by
    have x1 : count * width ≤ 1048576 * width := Int.mul_le_mul_of_nonneg_right (by omega) (by omega)
    have x2 : 1048576 * width ≤ 1048576 * 64 := Int.mul_le_mul_of_nonneg_left (by omega) (by omega)
    omega
  rw [e]
  generalize hz : count * width = z at *
  have Hz := Lib.hid hz
  clear e
  go_enter Try.func48, Try.ntmps48
  go_wp2
  go_ret
  exact ⟨rfl, rfl⟩

set_option maxHeartbeats 800000 in
theorem width_p (c : Int) (w : World) : Calls Try.prog 34 #[.int .i64 c] w fun e w' => e = .returned (.int .i64 (widthF c)) ∧ Below w.heap.size w w' := by
  by_cases h1 : c < 0
  · have e : widthF c = 0 := by unfold widthF; rw [if_pos (.inl h1)]
    rw [e]
    go_enter Try.func34, Try.ntmps34
    go_wp2
    go_ret
    exact ⟨rfl, Below.refl _ _⟩
  by_cases h2 : 32 ≤ c
  · have e : widthF c = 0 := by unfold widthF; rw [if_pos (.inr h2)]
    rw [e]
    go_enter Try.func34, Try.ntmps34
    go_wp2
    go_ret
    exact ⟨rfl, Below.refl _ _⟩
  by_cases h3 : c < 24
  · have e : widthF c = c + 1 := by unfold widthF; rw [if_neg (by omega), if_pos h3]
    rw [e]
    go_enter Try.func34, Try.ntmps34
    go_wp2
    go_ret
    exact ⟨rfl, Below.refl _ _⟩
  have h : c = 24 ∨ c = 25 ∨ c = 26 ∨ c = 27 ∨ c = 28 ∨ c = 29 ∨ c = 30 ∨ c = 31 := by omega
  clear h1 h2 h3
  rcases h with rfl | rfl | rfl | rfl | rfl | rfl | rfl | rfl
  all_goals
    go_enter Try.func34, Try.ntmps34
    go_wp2
    go_ret
    exact ⟨by first | rfl | decide, by first | exact Below.refl _ _ | exact (Below.refl _ _).alloc (Nat.le_refl _) _⟩

set_option maxHeartbeats 800000 in
theorem width_r (c : Int) (w : World) : Calls Try.prog 12 #[.int .i64 c] w fun e w' => e = .returned (.int .i64 (widthF c)) ∧ Below w.heap.size w w' := by
  by_cases h1 : c < 0
  · have e : widthF c = 0 := by unfold widthF; rw [if_pos (.inl h1)]
    rw [e]
    go_enter Try.func12, Try.ntmps12
    go_wp2
    go_ret
    exact ⟨rfl, Below.refl _ _⟩
  by_cases h2 : 32 ≤ c
  · have e : widthF c = 0 := by unfold widthF; rw [if_pos (.inr h2)]
    rw [e]
    go_enter Try.func12, Try.ntmps12
    go_wp2
    go_ret
    exact ⟨rfl, Below.refl _ _⟩
  by_cases h3 : c < 24
  · have e : widthF c = c + 1 := by unfold widthF; rw [if_neg (by omega), if_pos h3]
    rw [e]
    go_enter Try.func12, Try.ntmps12
    go_wp2
    go_ret
    exact ⟨rfl, Below.refl _ _⟩
  have h : c = 24 ∨ c = 25 ∨ c = 26 ∨ c = 27 ∨ c = 28 ∨ c = 29 ∨ c = 30 ∨ c = 31 := by omega
  clear h1 h2 h3
  rcases h with rfl | rfl | rfl | rfl | rfl | rfl | rfl | rfl
  all_goals
    go_enter Try.func12, Try.ntmps12
    go_wp2
    go_ret
    exact ⟨by first | rfl | decide, by first | exact Below.refl _ _ | exact (Below.refl _ _).alloc (Nat.le_refl _) _⟩

set_option maxHeartbeats 800000 in
theorem fit_p (n : Int) (w : World) : Calls Try.prog 35 #[.int .i64 n] w fun e w' => e = .returned (.int .i64 (fitF n)) ∧ Below w.heap.size w w' := by
  go_enter Try.func35, Try.ntmps35
  go_wp2_with fail
  go_loopw [5] (fun iv wr => ∃ k : Nat, k ≤ 32 ∧ iv = .int .i64 (k : Int) ∧ Hid (∀ j : Nat, j < k → widthF (j : Int) < n) ∧ Below w.heap.size w wr) (fun iv _ => 32 - (intOf iv).toNat)
  case atStart => exact ⟨0, by omega, rfl, fun j hj => by omega, Below.refl _ _⟩
  case round =>
    obtain ⟨k, hk, rfl, hno, hbel⟩ := hrel
    by_cases hlt : k < 32
    · by_cases heq : n ≤ widthF (k : Int)
      · have hf : fitF n = widthF (k : Int) := by
          have : fitO n = some k := find_range hlt (decide_eq_true heq) fun j hj => decide_eq_false (by have := hno.out j hj; omega)
          unfold fitF; rw [this]
        have Hf := Lib.hid hf
        clear hf
        generalize hw : widthF (k : Int) = wk at *
        have Hw := Lib.hid hw
        clear hw
        have hc : ∀ W : World, Calls Try.prog 34 #[.int .i64 (k : Int)] W fun e w' => e = .returned (.int .i64 wk) ∧ Below W.heap.size W w' := fun W => by rw [← Hw.out]; exact width_p _ _
        have Hc := Lib.hid hc
        clear hc
        go_wp2_with fail
        refine (Hc.out _).mono ?_
        rintro e w' ⟨rfl, hb⟩
        go_wp2_with fail
        go_ret
        exact ⟨by rw [Hf.out]; rfl, hbel.trans (hb.mono hbel.size)⟩
      · generalize hw : widthF (k : Int) = wk at *
        have Hw := Lib.hid hw
        clear hw
        have hc : ∀ W : World, Calls Try.prog 34 #[.int .i64 (k : Int)] W fun e w' => e = .returned (.int .i64 wk) ∧ Below W.heap.size W w' := fun W => by rw [← Hw.out]; exact width_p _ _
        have Hc := Lib.hid hc
        clear hc
        go_wp2_with (go_at_call 34; refine (Hc.out _).mono ?_; rintro e w' ⟨rfl, hb⟩)
        refine ⟨⟨k + 1, by omega, by go_num, fun j hj => ?_, hbel.trans (hb.mono hbel.size)⟩, by simp only [intOf]; omega⟩
        rcases Nat.lt_succ_iff_lt_or_eq.1 hj with h | rfl
        · exact hno.out j h
        · rw [Hw.out]; omega
    · have hf : fitF n = 64 := by
        have : fitO n = none := find_range_none fun j hj => decide_eq_false (by have := hno.out j (by omega); omega)
        unfold fitF; rw [this]
      have Hf := Lib.hid hf
      clear hf
      go_wp2_with fail
      go_ret
      exact ⟨by rw [Hf.out]; rfl, hbel⟩

end Go.Proofs.Ytehcbgnoiogncaa
