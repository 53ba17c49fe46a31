/- NumsSums, NumsZigs, NumsEnds, NumsOrder: the walks. -/
import Derived.Test.YtepkboilfgmkkaaNumsKnown
namespace Go.Proofs.Ytepkboilfgmkkaa
open Go.RowKit
open PackMath
set_option linter.unusedVariables false

theorem addS_in (a b : Int) : InI ((addS a b).getD 0) := by
  unfold addS
  split
  · assumption
  · unfold InI; decide
theorem addS_back (a b : Int) (ha : InI a) (h : (addS a b).isSome = true) : subS ((addS a b).getD 0) b = some a := by
  unfold addS at *
  split at h
  · rename_i hi
    rw [if_pos hi]
    unfold subS
    show (if InI (a + b - b) then some (a + b - b) else none) = _
    rw [show a + b - b = a from by omega, if_pos ha]
  · cases h
theorem mulS_back (a b : Int) (hb : b ≠ 0) (h : (mulS a b).isSome = true) : ((mulS a b).getD 0).tdiv b = a := by
  unfold mulS at *
  split at h
  · rename_i hi
    rw [if_pos hi]
    exact Int.mul_tdiv_cancel a hb
  · cases h
theorem mulS_comm (a b : Int) : mulS a b = mulS b a := by unfold mulS; rw [Int.mul_comm]
theorem addS_comm (a b : Int) : addS a b = addS b a := by unfold addS; rw [Int.add_comm]

set_option maxHeartbeats 3200000 in
theorem law_NumsSums (a b : Int) (w : World) (ha : -9223372036854775808 ≤ a ∧ a ≤ 9223372036854775807) (hb : -9223372036854775808 ≤ b ∧ b ≤ 9223372036854775807) : Calls Try.prog 10 #[.int .i64 a, .int .i64 b] w fun e w' => e = .returned (.bool true) ∧ Below w.heap.size w w' := by
  have A1 := Lib.hid (fun W => add_p a b W ha hb)
  have A2 := Lib.hid (fun W => add_r a b W ha hb)
  have S1 := Lib.hid (fun W => sub_p a b W ha hb)
  have S2 := Lib.hid (fun W => sub_r a b W ha hb)
  have M1 := Lib.hid (fun W => mul_p a b W ha hb)
  have M2 := Lib.hid (fun W => mul_r a b W ha hb)
  have S3 := Lib.hid (fun W => sub_p ((addS a b).getD 0) b W (addS_in a b) hb)
  have hx := addS_in a b
  have H1 := Lib.hid (addS_back a b ha)
  have H2 := Lib.hid (mulS_back a b)
  generalize addS a b = s at *
  generalize subS a b = d at *
  generalize mulS a b = m at *
  obtain ⟨b1, b2⟩ := hb
  obtain ⟨a1, a2⟩ := ha
  go_enter Try.func10, Try.ntmps10
  go_wp2_with fail
  refine (known1 _).mono ?_
  rintro e w1 ⟨rfl, hb1⟩
  go_wp2_with fail
  refine (A1.out _).mono ?_
  rintro e w2 ⟨rfl, rfl⟩
  unfold optV
  go_wp2_with fail
  refine (A2.out _).mono ?_
  rintro e w2 ⟨rfl, rfl⟩
  unfold optV
  go_wp2_with fail
  refine (S1.out _).mono ?_
  rintro e w2 ⟨rfl, rfl⟩
  unfold optV
  go_wp2_with fail
  refine (S2.out _).mono ?_
  rintro e w2 ⟨rfl, rfl⟩
  unfold optV
  go_wp2_with fail
  refine (M1.out _).mono ?_
  rintro e w2 ⟨rfl, rfl⟩
  unfold optV
  go_wp2_with fail
  refine (M2.out _).mono ?_
  rintro e w2 ⟨rfl, rfl⟩
  unfold optV
  go_wp2_with fail
  refine (S3.out _).mono ?_
  rintro e w2 ⟨rfl, rfl⟩
  unfold optV
  have h1 := H1.out
  have h2 := H2.out
  clear H1 H2 A1 A2 S1 S2 S3 M1 M2
  have e1 : s.isSome = true → ((subS (s.getD 0) b).isSome = true ∧ ((subS (s.getD 0) b).getD 0 == a) = true) := fun h => by rw [h1 h]; exact ⟨rfl, by simp⟩
  generalize subS (s.getD 0) b = t at *
  generalize s.isSome = ok at *
  generalize s.getD 0 = x at *
  generalize m.isSome = has at *
  generalize m.getD 0 = u at *
  generalize t.isSome = tin at *
  generalize t.getD 0 = tv at *
  clear h1
  have hlast : ok = false ∨ (tin = true ∧ (tv == a) = true) := by
    cases ok
    · exact .inl rfl
    · exact .inr (e1 rfl)
  clear e1
  have hlast2 : has = false ∨ b = 0 ∨ (b ≠ 0 ∧ u.tdiv b = a) := by
    cases has
    · exact .inl rfl
    · by_cases h : b = 0
      · exact .inr (.inl h)
      · exact .inr (.inr ⟨h, h2 h rfl⟩)
  clear h2
  rcases hlast with rfl | ⟨rfl, ht⟩
  all_goals rcases hlast2 with rfl | rfl | ⟨h3, h4⟩
  all_goals try have h3' : (b == 0) = false := beq_eq_false_iff_ne.2 h3
  all_goals go_wp2_with fail
  all_goals go_ret
  all_goals exact ⟨by first | rfl | (simp; done), hb1⟩


set_option maxHeartbeats 3200000 in
theorem law_NumsOrder (a b : Int) (w : World) (ha : -9223372036854775808 ≤ a ∧ a ≤ 9223372036854775807) (hb : -9223372036854775808 ≤ b ∧ b ≤ 9223372036854775807) : Calls Try.prog 15 #[.int .i64 a, .int .i64 b] w fun e w' => e = .returned (.bool true) ∧ Below w.heap.size w w' := by
  have A1 := Lib.hid (fun W => add_p a b W ha hb)
  have A2 := Lib.hid (fun W => add_p b a W hb ha)
  have M1 := Lib.hid (fun W => mul_p a b W ha hb)
  have M2 := Lib.hid (fun W => mul_p b a W hb ha)
  have M3 := Lib.hid (fun W => mul_p a 1 W ha (by unfold InI; decide))
  have M4 := Lib.hid (fun W => mul_p a 0 W ha (by unfold InI; decide))
  have A3 := Lib.hid (fun W => add_p a 0 W ha (by unfold InI; decide))
  rw [addS_comm b a] at A2
  rw [mulS_comm b a] at M2
  rw [show mulS a 1 = some a from by unfold mulS; rw [Int.mul_one, if_pos (show InI a from ha)]] at M3
  rw [show mulS a 0 = some 0 from by unfold mulS; rw [Int.mul_zero]; rfl] at M4
  rw [show addS a 0 = some a from by unfold addS; rw [Int.add_zero, if_pos (show InI a from ha)]] at A3
  generalize addS a b = s at *
  generalize mulS a b = m at *
  obtain ⟨b1, b2⟩ := hb
  obtain ⟨a1, a2⟩ := ha
  go_enter Try.func15, Try.ntmps15
  go_wp2_with fail
  refine (known1 _).mono ?_
  rintro e w1 ⟨rfl, hb1⟩
  go_wp2_with fail
  refine (A1.out _).mono ?_
  rintro e w2 ⟨rfl, rfl⟩
  unfold optV
  go_wp2_with fail
  refine (A2.out _).mono ?_
  rintro e w2 ⟨rfl, rfl⟩
  unfold optV
  go_wp2_with fail
  refine (M1.out _).mono ?_
  rintro e w2 ⟨rfl, rfl⟩
  unfold optV
  go_wp2_with fail
  refine (M2.out _).mono ?_
  rintro e w2 ⟨rfl, rfl⟩
  unfold optV
  go_wp2_with fail
  refine (M3.out _).mono ?_
  rintro e w2 ⟨rfl, rfl⟩
  unfold optV
  go_wp2_with fail
  refine (M4.out _).mono ?_
  rintro e w2 ⟨rfl, rfl⟩
  unfold optV
  go_wp2_with fail
  refine (A3.out _).mono ?_
  rintro e w2 ⟨rfl, rfl⟩
  unfold optV
  go_wp2_with fail
  go_ret
  exact ⟨by first | rfl | simp, hb1⟩

set_option maxHeartbeats 3200000 in
theorem law_NumsEnds (d : Int) (w : World) (hd : 0 ≤ d ∧ d ≤ 255) : Calls Try.prog 14 #[.int .u8 d] w fun e w' => e = .returned (.bool true) ∧ Below w.heap.size w w' := by
  obtain ⟨d1, d2⟩ := hd
  have A1 := Lib.hid (fun W => add_p (9223372036854775807 - d) d W (by unfold InI; omega) (by unfold InI; omega))
  have A2 := Lib.hid (fun W => add_p (9223372036854775807 - d) (d + 1) W (by unfold InI; omega) (by unfold InI; omega))
  have S1 := Lib.hid (fun W => sub_p (-9223372036854775808 + d) d W (by unfold InI; omega) (by unfold InI; omega))
  have S2 := Lib.hid (fun W => sub_p (-9223372036854775808 + d) (d + 1) W (by unfold InI; omega) (by unfold InI; omega))
  have M1 := Lib.hid (fun W => mul_p (-9223372036854775808) (-1) W (by unfold InI; omega) (by unfold InI; omega))
  have M2 := Lib.hid (fun W => mul_p (-9223372036854775808) 1 W (by unfold InI; omega) (by unfold InI; omega))
  rw [show addS (9223372036854775807 - d) d = some 9223372036854775807 from by unfold addS; rw [show 9223372036854775807 - d + d = 9223372036854775807 from by omega]; rfl] at A1
  rw [show addS (9223372036854775807 - d) (d + 1) = none from by unfold addS; rw [if_neg (by unfold InI; omega)]] at A2
  rw [show subS (-9223372036854775808 + d) d = some (-9223372036854775808) from by unfold subS; rw [show -9223372036854775808 + d - d = -9223372036854775808 from by omega]; rfl] at S1
  rw [show subS (-9223372036854775808 + d) (d + 1) = none from by unfold subS; rw [if_neg (by unfold InI; omega)]] at S2
  rw [show mulS (-9223372036854775808) (-1) = none from by decide] at M1
  rw [show mulS (-9223372036854775808) 1 = some (-9223372036854775808) from by decide] at M2
  go_enter Try.func14, Try.ntmps14
  go_wp2_with fail
  refine (known1 _).mono ?_
  rintro e w1 ⟨rfl, hb1⟩
  go_wp2_with fail
  refine (A1.out _).mono ?_
  rintro e w2 ⟨rfl, rfl⟩
  unfold optV
  go_wp2_with fail
  refine (A2.out _).mono ?_
  rintro e w2 ⟨rfl, rfl⟩
  unfold optV
  go_wp2_with fail
  refine (S1.out _).mono ?_
  rintro e w2 ⟨rfl, rfl⟩
  unfold optV
  go_wp2_with fail
  refine (S2.out _).mono ?_
  rintro e w2 ⟨rfl, rfl⟩
  unfold optV
  go_wp2_with fail
  refine (M1.out _).mono ?_
  rintro e w2 ⟨rfl, rfl⟩
  unfold optV
  go_wp2_with fail
  refine (M2.out _).mono ?_
  rintro e w2 ⟨rfl, rfl⟩
  unfold optV
  go_wp2_with fail
  go_ret
  exact ⟨by first | rfl | simp, hb1⟩

theorem zag_zig (v : Int) : zagS (zigS v) = v := by
  unfold zagS zigS
  split <;> split <;> omega
theorem zig_zag (u : Int) (h : 0 ≤ u) : zigS (zagS u) = u := by
  unfold zagS zigS
  split <;> split <;> omega
theorem zig_in (v : Int) (h : InI v) : 0 ≤ zigS v ∧ zigS v ≤ 18446744073709551615 := by
  unfold InI at h
  unfold zigS
  split <;> omega
theorem zag_in (u : Int) (h0 : 0 ≤ u) (h1 : u ≤ 18446744073709551615) : InI (zagS u) := by
  unfold InI zagS
  split <;> omega

set_option maxHeartbeats 3200000 in
theorem law_NumsZigs (v u : Int) (w : World) (hv : -9223372036854775808 ≤ v ∧ v ≤ 9223372036854775807) (hu : 0 ≤ u ∧ u < ((18446744073709551616 : Nat) : Int)) : Calls Try.prog 11 #[.int .i64 v, .int .u64 u] w fun e w' => e = .returned (.bool true) ∧ Below w.heap.size w w' := by
  obtain ⟨u1, u2⟩ := hu
  have hzi := zig_in v hv
  have Z1 := Lib.hid (fun W => zig_p v W hv)
  have Z2 := Lib.hid (fun W => zig_r v W hv)
  have Z3 := Lib.hid (fun W => zag_p (zigS v) W hzi.1 hzi.2)
  have G1 := Lib.hid (fun W => zag_p u W u1 (by omega))
  have G2 := Lib.hid (fun W => zag_r u W u1 (by omega))
  have G3 := Lib.hid (fun W => zig_p (zagS u) W (zag_in u u1 (by omega)))
  rw [zag_zig v] at Z3
  rw [zig_zag u u1] at G3
  have hsm : v < -4611686018427387904 ∨ 4611686018427387904 ≤ v ∨ (-4611686018427387904 ≤ v ∧ v < 4611686018427387904 ∧ zigS v / 2 < 4611686018427387904) := by unfold zigS; split <;> omega
  obtain ⟨v1, v2⟩ := hv
  obtain ⟨z1, z2⟩ := hzi
  generalize zigS v = z at *
  generalize zagS u = g at *
  go_enter Try.func11, Try.ntmps11
  go_wp2_with fail
  refine (known1 _).mono ?_
  rintro e w1 ⟨rfl, hb1⟩
  go_wp2_with fail
  refine (Z1.out _).mono ?_
  rintro e w2 ⟨rfl, rfl⟩
  go_wp2_with fail
  refine (Z2.out _).mono ?_
  rintro e w2 ⟨rfl, rfl⟩
  go_wp2_with fail
  refine (Z3.out _).mono ?_
  rintro e w2 ⟨rfl, rfl⟩
  go_wp2_with fail
  refine (G1.out _).mono ?_
  rintro e w2 ⟨rfl, rfl⟩
  go_wp2_with fail
  refine (G2.out _).mono ?_
  rintro e w2 ⟨rfl, rfl⟩
  go_wp2_with fail
  refine (G1.out _).mono ?_
  rintro e w2 ⟨rfl, rfl⟩
  go_wp2_with fail
  refine (G3.out _).mono ?_
  rintro e w2 ⟨rfl, rfl⟩
  rcases hsm with h | h | ⟨h, h', h''⟩
  all_goals go_wp2_with fail
  all_goals go_ret
  all_goals exact ⟨by first | rfl | simp, hb1⟩
end Go.Proofs.Ytepkboilfgmkkaa
