/- PackWidths: the walk. -/
import Derived.Test.YtepkboilfgmkkaaPackKnown
namespace Go.Proofs.Ytepkboilfgmkkaa
open Go.RowKit
open PackMath
set_option linter.unusedVariables false

def widOk (n : Int) (k : Nat) : Prop := codeO (fitF n) = some k ∧ k < 32 ∧ (n ≤ 64 → n ≤ fitF n) ∧ (0 < k → 1 ≤ n → n ≤ 64 → widthF ((k : Int) - 1) < n)

instance (n : Int) (k : Nat) : Decidable (widOk n k) := by unfold widOk; exact inferInstance

theorem wid_small : ∀ m, m < 65 → ∃ k, k < 32 ∧ widOk (m : Nat) k := by decide +kernel

theorem widthF_pos (c : Nat) (h : c < 32) : 1 ≤ widthF (c : Int) := by
  unfold widthF
  repeat' split
  all_goals omega

theorem wid_all (n : Int) : ∃ k, widOk n k := by
  by_cases h1 : n < 1
  · refine ⟨0, ?_⟩
    have hf : fitF n = 1 := by
      have : fitO n = some 0 := find_range (by decide) (decide_eq_true (by have := widthF_pos 0 (by decide); omega)) fun j hj => by omega
      unfold fitF; rw [this]; rfl
    unfold widOk
    rw [hf]
    exact ⟨by decide, by decide, fun _ => by omega, fun h => by omega⟩
  · by_cases h2 : 64 < n
    · refine ⟨31, ?_⟩
      have hf : fitF n = 64 := by
        have : fitO n = none := find_range_none fun j hj => decide_eq_false (by have := widthF_bd (j : Int); omega)
        unfold fitF; rw [this]
      unfold widOk
      rw [hf]
      exact ⟨by decide, by decide, fun _ => by omega, fun _ _ h => by omega⟩
    · obtain ⟨k, _, h⟩ := wid_small n.toNat (by omega)
      rw [show ((n.toNat : Nat) : Int) = n from by omega] at h
      exact ⟨k, h⟩

theorem code_hit (n : Int) (c : Nat) (h : codeO n = some c) : widthF (c : Int) = n := by
  have := List.find?_some h
  exact beq_iff_eq.1 this

set_option maxHeartbeats 3200000 in
theorem law_PackWidths (n : Int) (w : World) (_hn : -9223372036854775808 ≤ n ∧ n ≤ 9223372036854775807) : Calls Try.prog 5 #[.int .i64 n] w fun e w' => e = .returned (.bool true) ∧ Below w.heap.size w w' := by
  obtain ⟨k, hk1, hk2, hk3, hk4⟩ := wid_all n
  have hk1' : codeO (fitF n) = some k := hk1
  have HK := Lib.hid hk1'
  have hcode := code_hit n
  generalize hF : fitF n = F at *
  generalize hC : codeO n = C at *
  have HF := Lib.hid hF
  have HC := Lib.hid hC
  have hf : ∀ W : World, Calls Try.prog 28 #[.int .i64 n] W fun e w' => e = .returned (.int .i64 F) ∧ Below W.heap.size W w' := fun W => by rw [← HF.out]; exact fit_p _ _
  have hf' : ∀ W : World, Calls Try.prog 29 #[.int .i64 n] W fun e w' => e = .returned (.int .i64 F) ∧ Below W.heap.size W w' := fun W => by rw [← HF.out]; exact fit_r _ _
  have hc : ∀ W : World, Calls Try.prog 24 #[.int .i64 n] W fun e w' => e = .returned (.tuple #[.int .i64 ((C.getD 0 : Nat) : Int), .bool C.isSome]) ∧ Below W.heap.size W w' := fun W => by rw [← HC.out]; exact code_p _ _
  have hc' : ∀ W : World, Calls Try.prog 25 #[.int .i64 n] W fun e w' => e = .returned (.tuple #[.int .i64 ((C.getD 0 : Nat) : Int), .bool C.isSome]) ∧ Below W.heap.size W w' := fun W => by rw [← HC.out]; exact code_r _ _
  have hcF : ∀ W : World, Calls Try.prog 24 #[.int .i64 F] W fun e w' => e = .returned (.tuple #[.int .i64 (k : Int), .bool true]) ∧ Below W.heap.size W w' := fun W => by
    have := code_p F W
    rw [HK.out] at this
    exact this
  have Hf := Lib.hid hf; have Hf' := Lib.hid hf'; have Hc := Lib.hid hc; have Hc' := Lib.hid hc'; have HcF := Lib.hid hcF
  have Hcode := Lib.hid hcode
  clear hf hf' hc hc' hcF hk1 hk1' hF hC hcode
  have hk0 : (0 : Int) ≤ (k : Int) := by omega
  have hk32 : (k : Int) < 32 := by omega
  -- the last statement, either way
  have hlast : ∃ cv : Nat, ∃ ok : Bool, C.getD 0 = cv ∧ C.isSome = ok ∧ (ok = true → widthF (cv : Int) = n) := by
    cases C with
    | none => exact ⟨0, false, rfl, rfl, fun h => by cases h⟩
    | some c => exact ⟨c, true, rfl, rfl, fun _ => Hcode.out c rfl⟩
  obtain ⟨cv, ok, e1, e2, hwc⟩ := hlast
  rw [e1, e2] at Hc Hc'
  have Hwc := Lib.hid hwc
  clear e1 e2 hwc Hcode HC HK HF
  generalize hwn : widthF n = wn
  have hwp : ∀ W : World, Calls Try.prog 26 #[.int .i64 n] W fun e w' => e = .returned (.int .i64 wn) ∧ Below W.heap.size W w' := fun W => by rw [← hwn]; exact width_p _ _
  have hwr : ∀ W : World, Calls Try.prog 27 #[.int .i64 n] W fun e w' => e = .returned (.int .i64 wn) ∧ Below W.heap.size W w' := fun W => by rw [← hwn]; exact width_r _ _
  have Hwp := Lib.hid hwp; have Hwr := Lib.hid hwr
  clear hwp hwr hwn
  -- the tail: Code(n) told a code or not
  go_enter Try.func5, Try.ntmps5
  go_wp2_with fail
  refine (known2 _).mono ?_
  rintro e w1 ⟨rfl, hb1⟩
  go_wp2_with fail
  refine (Hc.out _).mono ?_
  rintro e w2 ⟨rfl, hb2⟩
  go_wp2_with fail
  refine (Hc'.out _).mono ?_
  rintro e w3 ⟨rfl, hb3⟩
  go_wp2_with fail
  refine (Hwp.out _).mono ?_
  rintro e w4 ⟨rfl, hb4⟩
  go_wp2_with fail
  refine (Hwr.out _).mono ?_
  rintro e w5 ⟨rfl, hb5⟩
  go_wp2_with fail
  refine (Hf.out _).mono ?_
  rintro e w6 ⟨rfl, hb6⟩
  go_wp2_with fail
  refine (Hf'.out _).mono ?_
  rintro e w7 ⟨rfl, hb7⟩
  go_wp2_with fail
  refine (Hf.out _).mono ?_
  rintro e w8 ⟨rfl, hb8⟩
  go_wp2_with fail
  refine (HcF.out _).mono ?_
  rintro e w9 ⟨rfl, hb9⟩
  have B9 := below_trans' (below_trans' (below_trans' (below_trans' (below_trans' (below_trans' (below_trans' (below_trans' hb1 hb2) hb3) hb4) hb5) hb6) hb7) hb8) hb9
  clear hb1 hb2 hb3 hb4 hb5 hb6 hb7 hb8 hb9
  have Hk4 := Lib.hid hk4
  clear hk4
  go_upto_region 11 with fail
  rotate_left
  all_goals try
    cases ok
    · go_wp2_with fail
      go_ret
      exact ⟨rfl, B9⟩
    · have hcv := Hwc.out rfl
      go_wp2_with fail
      refine (width_p _ _).mono ?_
      rintro e w11 ⟨rfl, hb11⟩
      rw [hcv]
      clear hcv
      go_wp2_with fail
      go_ret
      exact ⟨rfl, below_trans' B9 hb11⟩
  refine (width_p _ _).mono ?_
  rintro e w10 ⟨rfl, hb10⟩
  have h4 := Hk4.out (by omega) (by omega) (by omega)
  have B10 := below_trans' B9 hb10
  clear hb10
  generalize widthF ((k : Int) - 1) = z at *
  go_upto_region 11 with fail
  cases ok
  · go_wp2_with fail
    go_ret
    exact ⟨rfl, B10⟩
  · have hcv := Hwc.out rfl
    go_wp2_with fail
    refine (width_p _ _).mono ?_
    rintro e w11 ⟨rfl, hb11⟩
    rw [hcv]
    clear hcv
    go_wp2_with fail
    go_ret
    exact ⟨rfl, below_trans' B10 hb11⟩
end Go.Proofs.Ytepkboilfgmkkaa
