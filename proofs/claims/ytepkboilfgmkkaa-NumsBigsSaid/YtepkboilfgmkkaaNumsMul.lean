/- nums.Mul, Bits, size and the references' own: what they answer. (Printed by gen/numsmul.py.) -/
import Derived.Test.YtepkboilfgmkkaaNumsAr
import Derived.Test.YtepkboilfgmkkaaShelf
import Derived.Deep.DeepCutAuto
namespace Go.Proofs.Ytepkboilfgmkkaa
open Go.RowKit
set_option linter.unusedVariables false

/-- The product, where it is a number. -/
def mulS (a b : Int) : Option Int := if InI (a * b) then some (a * b) else none

theorem ret_u64' {k : IntKind} {a b : Int} (h : a = b) : Ending.returned (.int k a) = .returned (.int k b) := by rw [h]

theorem size_p (a : Int) (w : World) (ha : InI a) : Calls Try.prog 54 #[.int .i64 a] w fun e w' => e = .returned (.int .u64 (a.natAbs : Int)) ∧ w' = w := by
  obtain ⟨a1, a2⟩ := ha
  by_cases h : a < 0
  · have e1 : IntKind.u64.wrap (-IntKind.u64.wrap a) = (a.natAbs : Int) := by rw [IntKind.wrap_u64, IntKind.wrap_u64]; omega
    go_enter Try.func54, Try.ntmps54
    go_wp2
    go_ret
    exact ⟨rfl, rfl⟩
  · obtain ⟨n, rfl⟩ : ∃ n : Nat, a = (n : Int) := ⟨a.toNat, by omega⟩
    rw [Int.natAbs_natCast]
    go_enter Try.func54, Try.ntmps54
    go_wp2
    go_ret
    exact ⟨rfl, rfl⟩

theorem size_r (a : Int) (w : World) (ha : InI a) : Calls Try.prog 55 #[.int .i64 a] w fun e w' => e = .returned (.int .u64 (a.natAbs : Int)) ∧ w' = w := by
  obtain ⟨a1, a2⟩ := ha
  by_cases h : a < 0
  · have e1 : (-(a + 1)) + 1 = (a.natAbs : Int) := by omega
    go_enter Try.func55, Try.ntmps55
    go_wp2
    go_ret
    exact ⟨rfl, rfl⟩
  · obtain ⟨n, rfl⟩ : ∃ n : Nat, a = (n : Int) := ⟨a.toNat, by omega⟩
    rw [Int.natAbs_natCast]
    go_enter Try.func55, Try.ntmps55
    go_wp2
    go_ret
    exact ⟨rfl, rfl⟩

theorem bits_p (u : Nat) (w : World) (hu : u < 18446744073709551616) : Calls Try.prog 49 #[.int .u64 (u : Int)] w fun e w' => e = .returned (.int .i64 (Lib.bitLen u : Int)) ∧ w' = w := by
  go_enter Try.func49, Try.ntmps49
  go_wp2_with fail
  refine (Try.bits_Len64 (u : Int) _ (by omega) (by omega)).mono ?_
  rintro e w1 ⟨rfl, rfl⟩
  go_wp2_with fail
  go_ret
  exact ⟨by first | rfl | simp, rfl⟩

theorem bla_zero (f : Nat) : Lib.bitLenAux f 0 = 0 := by cases f <;> rfl
theorem bla_le (f x : Nat) : Lib.bitLenAux f x ≤ f := by
  induction f generalizing x with
  | zero => exact Nat.le_refl _
  | succ f ih => unfold Lib.bitLenAux; split; omega; have := ih (x / 2); omega
theorem bla_lt (f x : Nat) (h : x < 2 ^ f) : Lib.bitLenAux f x = Lib.bitLenAux (f + 1) x := by
  induction f generalizing x with
  | zero => rw [show x = 0 from by simpa using h]; rfl
  | succ f ih =>
    rw [Lib.bitLenAux, Lib.bitLenAux]
    split
    · rfl
    · rw [← ih (x / 2) (by rw [Nat.pow_succ] at h; omega)]
theorem bitLen_half (x : Nat) (h0 : x ≠ 0) (h : x < 18446744073709551616) : Lib.bitLen x = 1 + Lib.bitLen (x / 2) := by
  unfold Lib.bitLen
  rw [show (64 : Nat) = 63 + 1 from rfl, Lib.bitLenAux, if_neg h0, bla_lt 63 (x / 2) (by omega)]

set_option maxHeartbeats 800000 in
theorem bits_r (u : Nat) (w : World) (hu : u < 18446744073709551616) : Calls Try.prog 50 #[.int .u64 (u : Int)] w fun e w' => e = .returned (.int .i64 (Lib.bitLen u : Int)) ∧ w' = w := by
  have HL := Lib.hid (bla_le 64 u)
  go_enter Try.func50, Try.ntmps50
  go_wp2_with fail
  go_loopw [0, 3] (fun uv nv wr => ∃ x i : Nat, x ≤ u ∧ uv = .int .u64 (x : Int) ∧ nv = .int .i64 (i : Int) ∧ i + Lib.bitLen x = Lib.bitLen u ∧ wr = w) (fun uv _ _ => (intOf uv).toNat)
  case atStart => exact ⟨u, 0, Nat.le_refl _, rfl, rfl, by omega, by first | rfl | trivial⟩
  case round =>
    obtain ⟨x, i, hx, rfl, rfl, hi, hw⟩ := hrel
    have HI := Lib.hid hi
    have hi64 : i ≤ 64 := by have := HL.out; unfold Lib.bitLen at hi; omega
    clear hi
    by_cases h0 : x = 0
    · subst h0
      go_wp2_with fail
      go_ret
      have h1 := HI.out
      rw [show Lib.bitLen 0 = 0 from rfl] at h1
      exact ⟨ret_u64' (by omega), by first | rfl | assumption⟩
    · have HB := Lib.hid (bitLen_half x h0 (by omega))
      go_wp2_with fail
      have h1 := HI.out
      have h2 := HB.out
      refine ⟨⟨x / 2, i + 1, by omega, by first | rfl | simp, by go_num, by omega, by first | rfl | assumption | trivial⟩, by simp only [intOf]; omega⟩


theorem natAbs_lt (a : Int) (ha : InI a) : a.natAbs < 18446744073709551616 := by obtain ⟨a1, a2⟩ := ha; omega
theorem mul_signs (a b : Int) : ((decide (a < 0) = decide (b < 0)) → a * b = ((a.natAbs * b.natAbs : Nat) : Int)) ∧ ((decide (a < 0) ≠ decide (b < 0)) → a * b = -((a.natAbs * b.natAbs : Nat) : Int)) := by
  constructor
  · intro h
    by_cases ha : a < 0
    · have hb : b < 0 := by simpa [ha] using h
      rw [Int.natCast_mul, show (a.natAbs : Int) = -a from by omega, show (b.natAbs : Int) = -b from by omega, Int.neg_mul_neg]
    · have hb : ¬ b < 0 := by simpa [ha] using h
      rw [Int.natCast_mul, show (a.natAbs : Int) = a from by omega, show (b.natAbs : Int) = b from by omega]
  · intro h
    by_cases ha : a < 0
    · have hb : ¬ b < 0 := by simpa [ha] using h
      rw [Int.natCast_mul, show (a.natAbs : Int) = -a from by omega, show (b.natAbs : Int) = b from by omega, Int.neg_mul, Int.neg_neg]
    · have hb : b < 0 := by simpa [ha] using h
      rw [Int.natCast_mul, show (a.natAbs : Int) = a from by omega, show (b.natAbs : Int) = -b from by omega, Int.mul_neg, Int.neg_neg]

theorem mul_p_zero (a b : Int) (w : World) (h : a = 0 ∨ b = 0) : Calls Try.prog 39 #[.int .i64 a, .int .i64 b] w fun e w' => e = .returned (optV (mulS a b)) ∧ w' = w := by
  have e : mulS a b = some 0 := by
    have h0 : a * b = 0 := by rcases h with rfl | rfl <;> simp
    unfold mulS
    rw [h0, if_pos (by unfold InI; omega)]
  rw [e]
  unfold optV
  by_cases ha : a = 0
  · subst ha
    go_enter Try.func39, Try.ntmps39
    go_wp2
    go_ret2
    exact ⟨by first | rfl | simp, rfl⟩
  · have hb : b = 0 := by omega
    subst hb
    have n0 : (a == 0) = false := beq_eq_false_iff_ne.2 ha
    go_enter Try.func39, Try.ntmps39
    go_wp2
    go_ret2
    exact ⟨by first | rfl | simp, rfl⟩


set_option maxHeartbeats 3200000 in
theorem mul_p_00 (a b : Int) (w : World) (ha : InI a) (hb : InI b) (za : a ≠ 0) (zb : b ≠ 0) (sa : decide (a < 0) = false) (sb : decide (b < 0) = false) : Calls Try.prog 39 #[.int .i64 a, .int .i64 b] w fun e w' => e = .returned (optV (mulS a b)) ∧ w' = w := by
  have hm := (mul_signs a b).1 (by rw [sa, sb])
  have na : (a == 0) = false := beq_eq_false_iff_ne.2 za
  have nb : (b == 0) = false := beq_eq_false_iff_ne.2 zb
  have hA := size_p a w ha
  have hB := size_p b w hb
  have hM := Try.bits_Mul64 a.natAbs b.natAbs (natAbs_lt a ha) (natAbs_lt b hb) w
  generalize a.natAbs * b.natAbs = N at hm hM
  generalize a.natAbs = x at hA hM
  generalize b.natAbs = y at hB hM
  have hN : N / 18446744073709551616 * 18446744073709551616 + N % 18446744073709551616 = N := by omega
  have hl : N % 18446744073709551616 < 18446744073709551616 := by omega
  generalize N / 18446744073709551616 = h at hN hM
  generalize N % 18446744073709551616 = l at hN hM hl
  by_cases h0 : h = 0
  · subst h0
    by_cases h1 : 9223372036854775808 < l
    · have e : mulS a b = none := by unfold mulS; rw [hm, if_neg (by unfold InI; omega)]
      rw [e]; unfold optV
      obtain ⟨a1, a2⟩ := ha
      obtain ⟨b1, b2⟩ := hb
      clear hm hN za zb
      go_enter Try.func39, Try.ntmps39
      go_wp2_with fail
      refine hA.mono ?_
      rintro e w1 ⟨rfl, rfl⟩
      go_wp2_with fail
      refine hB.mono ?_
      rintro e w1 ⟨rfl, rfl⟩
      go_wp2_with fail
      refine hM.mono ?_
      rintro e w1 ⟨rfl, rfl⟩
      go_wp2_with fail
      go_ret2
      exact ⟨by first | rfl | (simp; done) | (simp; unfold wrap64; decide), rfl⟩
    · by_cases h2 : l = 9223372036854775808
      · subst h2
        have e : mulS a b = none := by unfold mulS; rw [hm, ← hN, if_neg (by unfold InI; omega)]
        rw [e]; unfold optV
        obtain ⟨a1, a2⟩ := ha
        obtain ⟨b1, b2⟩ := hb
        clear hm hN za zb
        go_enter Try.func39, Try.ntmps39
        go_wp2_with fail
        refine hA.mono ?_
        rintro e w1 ⟨rfl, rfl⟩
        go_wp2_with fail
        refine hB.mono ?_
        rintro e w1 ⟨rfl, rfl⟩
        go_wp2_with fail
        refine hM.mono ?_
        rintro e w1 ⟨rfl, rfl⟩
        go_wp2_with fail
        go_ret2
        exact ⟨by first | rfl | (simp; done) | (simp; unfold wrap64; decide), rfl⟩
      · have e : mulS a b = some ((l : Int)) := by unfold mulS; rw [hm, ← hN, if_pos (by unfold InI; omega), Nat.zero_mul, Nat.zero_add]
        rw [e]; unfold optV
        have n2 : ((l : Int) == 9223372036854775808) = false := beq_eq_false_iff_ne.2 (by omega)
        obtain ⟨a1, a2⟩ := ha
        obtain ⟨b1, b2⟩ := hb
        have h3 : l < 9223372036854775808 := by omega
        clear h1 h2 hl
        clear hm hN za zb
        go_enter Try.func39, Try.ntmps39
        go_wp2_with fail
        refine hA.mono ?_
        rintro e w1 ⟨rfl, rfl⟩
        go_wp2_with fail
        refine hB.mono ?_
        rintro e w1 ⟨rfl, rfl⟩
        go_wp2_with fail
        refine hM.mono ?_
        rintro e w1 ⟨rfl, rfl⟩
        go_wp2_with fail
        go_ret2
        exact ⟨by first | rfl | (simp; done) | (simp; unfold wrap64; decide), rfl⟩
  · have e : mulS a b = none := by unfold mulS; rw [hm, if_neg (by unfold InI; omega)]
    rw [e]; unfold optV
    have n1 : ((h : Int) != 0) = true := bne_iff_ne.2 (by omega)
    obtain ⟨a1, a2⟩ := ha
    obtain ⟨b1, b2⟩ := hb
    clear hm hN za zb
    go_enter Try.func39, Try.ntmps39
    go_wp2_with fail
    refine hA.mono ?_
    rintro e w1 ⟨rfl, rfl⟩
    go_wp2_with fail
    refine hB.mono ?_
    rintro e w1 ⟨rfl, rfl⟩
    go_wp2_with fail
    refine hM.mono ?_
    rintro e w1 ⟨rfl, rfl⟩
    go_wp2_with fail
    go_ret2
    exact ⟨by first | rfl | (simp; done) | (simp; unfold wrap64; decide), rfl⟩

set_option maxHeartbeats 3200000 in
theorem mul_p_01 (a b : Int) (w : World) (ha : InI a) (hb : InI b) (za : a ≠ 0) (zb : b ≠ 0) (sa : decide (a < 0) = false) (sb : decide (b < 0) = true) : Calls Try.prog 39 #[.int .i64 a, .int .i64 b] w fun e w' => e = .returned (optV (mulS a b)) ∧ w' = w := by
  have hm := (mul_signs a b).2 (by rw [sa, sb]; decide)
  have na : (a == 0) = false := beq_eq_false_iff_ne.2 za
  have nb : (b == 0) = false := beq_eq_false_iff_ne.2 zb
  have hA := size_p a w ha
  have hB := size_p b w hb
  have hM := Try.bits_Mul64 a.natAbs b.natAbs (natAbs_lt a ha) (natAbs_lt b hb) w
  generalize a.natAbs * b.natAbs = N at hm hM
  generalize a.natAbs = x at hA hM
  generalize b.natAbs = y at hB hM
  have hN : N / 18446744073709551616 * 18446744073709551616 + N % 18446744073709551616 = N := by omega
  have hl : N % 18446744073709551616 < 18446744073709551616 := by omega
  generalize N / 18446744073709551616 = h at hN hM
  generalize N % 18446744073709551616 = l at hN hM hl
  by_cases h0 : h = 0
  · subst h0
    by_cases h1 : 9223372036854775808 < l
    · have e : mulS a b = none := by unfold mulS; rw [hm, if_neg (by unfold InI; omega)]
      rw [e]; unfold optV
      obtain ⟨a1, a2⟩ := ha
      obtain ⟨b1, b2⟩ := hb
      clear hm hN za zb
      go_enter Try.func39, Try.ntmps39
      go_wp2_with fail
      refine hA.mono ?_
      rintro e w1 ⟨rfl, rfl⟩
      go_wp2_with fail
      refine hB.mono ?_
      rintro e w1 ⟨rfl, rfl⟩
      go_wp2_with fail
      refine hM.mono ?_
      rintro e w1 ⟨rfl, rfl⟩
      go_wp2_with fail
      go_ret2
      exact ⟨by first | rfl | (simp; done) | (simp; unfold wrap64; decide), rfl⟩
    · by_cases h2 : l = 9223372036854775808
      · subst h2
        have e : mulS a b = some (-9223372036854775808) := by unfold mulS; rw [hm, ← hN, if_pos (by unfold InI; omega)]; rfl
        rw [e]; unfold optV
        obtain ⟨a1, a2⟩ := ha
        obtain ⟨b1, b2⟩ := hb
        clear hm hN za zb
        go_enter Try.func39, Try.ntmps39
        go_wp2_with fail
        refine hA.mono ?_
        rintro e w1 ⟨rfl, rfl⟩
        go_wp2_with fail
        refine hB.mono ?_
        rintro e w1 ⟨rfl, rfl⟩
        go_wp2_with fail
        refine hM.mono ?_
        rintro e w1 ⟨rfl, rfl⟩
        go_wp2_with fail
        go_ret2
        exact ⟨by first | rfl | (simp; done) | (simp; unfold wrap64; decide), rfl⟩
      · have e : mulS a b = some (-(l : Int)) := by unfold mulS; rw [hm, ← hN, if_pos (by unfold InI; omega), Nat.zero_mul, Nat.zero_add]
        rw [e]; unfold optV
        have n2 : ((l : Int) == 9223372036854775808) = false := beq_eq_false_iff_ne.2 (by omega)
        obtain ⟨a1, a2⟩ := ha
        obtain ⟨b1, b2⟩ := hb
        have h3 : l < 9223372036854775808 := by omega
        clear h1 h2 hl
        clear hm hN za zb
        go_enter Try.func39, Try.ntmps39
        go_wp2_with fail
        refine hA.mono ?_
        rintro e w1 ⟨rfl, rfl⟩
        go_wp2_with fail
        refine hB.mono ?_
        rintro e w1 ⟨rfl, rfl⟩
        go_wp2_with fail
        refine hM.mono ?_
        rintro e w1 ⟨rfl, rfl⟩
        go_wp2_with fail
        go_ret2
        exact ⟨by first | rfl | (simp; done) | (simp; unfold wrap64; decide), rfl⟩
  · have e : mulS a b = none := by unfold mulS; rw [hm, if_neg (by unfold InI; omega)]
    rw [e]; unfold optV
    have n1 : ((h : Int) != 0) = true := bne_iff_ne.2 (by omega)
    obtain ⟨a1, a2⟩ := ha
    obtain ⟨b1, b2⟩ := hb
    clear hm hN za zb
    go_enter Try.func39, Try.ntmps39
    go_wp2_with fail
    refine hA.mono ?_
    rintro e w1 ⟨rfl, rfl⟩
    go_wp2_with fail
    refine hB.mono ?_
    rintro e w1 ⟨rfl, rfl⟩
    go_wp2_with fail
    refine hM.mono ?_
    rintro e w1 ⟨rfl, rfl⟩
    go_wp2_with fail
    go_ret2
    exact ⟨by first | rfl | (simp; done) | (simp; unfold wrap64; decide), rfl⟩

set_option maxHeartbeats 3200000 in
theorem mul_p_10 (a b : Int) (w : World) (ha : InI a) (hb : InI b) (za : a ≠ 0) (zb : b ≠ 0) (sa : decide (a < 0) = true) (sb : decide (b < 0) = false) : Calls Try.prog 39 #[.int .i64 a, .int .i64 b] w fun e w' => e = .returned (optV (mulS a b)) ∧ w' = w := by
  have hm := (mul_signs a b).2 (by rw [sa, sb]; decide)
  have na : (a == 0) = false := beq_eq_false_iff_ne.2 za
  have nb : (b == 0) = false := beq_eq_false_iff_ne.2 zb
  have hA := size_p a w ha
  have hB := size_p b w hb
  have hM := Try.bits_Mul64 a.natAbs b.natAbs (natAbs_lt a ha) (natAbs_lt b hb) w
  generalize a.natAbs * b.natAbs = N at hm hM
  generalize a.natAbs = x at hA hM
  generalize b.natAbs = y at hB hM
  have hN : N / 18446744073709551616 * 18446744073709551616 + N % 18446744073709551616 = N := by omega
  have hl : N % 18446744073709551616 < 18446744073709551616 := by omega
  generalize N / 18446744073709551616 = h at hN hM
  generalize N % 18446744073709551616 = l at hN hM hl
  by_cases h0 : h = 0
  · subst h0
    by_cases h1 : 9223372036854775808 < l
    · have e : mulS a b = none := by unfold mulS; rw [hm, if_neg (by unfold InI; omega)]
      rw [e]; unfold optV
      obtain ⟨a1, a2⟩ := ha
      obtain ⟨b1, b2⟩ := hb
      clear hm hN za zb
      go_enter Try.func39, Try.ntmps39
      go_wp2_with fail
      refine hA.mono ?_
      rintro e w1 ⟨rfl, rfl⟩
      go_wp2_with fail
      refine hB.mono ?_
      rintro e w1 ⟨rfl, rfl⟩
      go_wp2_with fail
      refine hM.mono ?_
      rintro e w1 ⟨rfl, rfl⟩
      go_wp2_with fail
      go_ret2
      exact ⟨by first | rfl | (simp; done) | (simp; unfold wrap64; decide), rfl⟩
    · by_cases h2 : l = 9223372036854775808
      · subst h2
        have e : mulS a b = some (-9223372036854775808) := by unfold mulS; rw [hm, ← hN, if_pos (by unfold InI; omega)]; rfl
        rw [e]; unfold optV
        obtain ⟨a1, a2⟩ := ha
        obtain ⟨b1, b2⟩ := hb
        clear hm hN za zb
        go_enter Try.func39, Try.ntmps39
        go_wp2_with fail
        refine hA.mono ?_
        rintro e w1 ⟨rfl, rfl⟩
        go_wp2_with fail
        refine hB.mono ?_
        rintro e w1 ⟨rfl, rfl⟩
        go_wp2_with fail
        refine hM.mono ?_
        rintro e w1 ⟨rfl, rfl⟩
        go_wp2_with fail
        go_ret2
        exact ⟨by first | rfl | (simp; done) | (simp; unfold wrap64; decide), rfl⟩
      · have e : mulS a b = some (-(l : Int)) := by unfold mulS; rw [hm, ← hN, if_pos (by unfold InI; omega), Nat.zero_mul, Nat.zero_add]
        rw [e]; unfold optV
        have n2 : ((l : Int) == 9223372036854775808) = false := beq_eq_false_iff_ne.2 (by omega)
        obtain ⟨a1, a2⟩ := ha
        obtain ⟨b1, b2⟩ := hb
        have h3 : l < 9223372036854775808 := by omega
        clear h1 h2 hl
        clear hm hN za zb
        go_enter Try.func39, Try.ntmps39
        go_wp2_with fail
        refine hA.mono ?_
        rintro e w1 ⟨rfl, rfl⟩
        go_wp2_with fail
        refine hB.mono ?_
        rintro e w1 ⟨rfl, rfl⟩
        go_wp2_with fail
        refine hM.mono ?_
        rintro e w1 ⟨rfl, rfl⟩
        go_wp2_with fail
        go_ret2
        exact ⟨by first | rfl | (simp; done) | (simp; unfold wrap64; decide), rfl⟩
  · have e : mulS a b = none := by unfold mulS; rw [hm, if_neg (by unfold InI; omega)]
    rw [e]; unfold optV
    have n1 : ((h : Int) != 0) = true := bne_iff_ne.2 (by omega)
    obtain ⟨a1, a2⟩ := ha
    obtain ⟨b1, b2⟩ := hb
    clear hm hN za zb
    go_enter Try.func39, Try.ntmps39
    go_wp2_with fail
    refine hA.mono ?_
    rintro e w1 ⟨rfl, rfl⟩
    go_wp2_with fail
    refine hB.mono ?_
    rintro e w1 ⟨rfl, rfl⟩
    go_wp2_with fail
    refine hM.mono ?_
    rintro e w1 ⟨rfl, rfl⟩
    go_wp2_with fail
    go_ret2
    exact ⟨by first | rfl | (simp; done) | (simp; unfold wrap64; decide), rfl⟩

set_option maxHeartbeats 3200000 in
theorem mul_p_11 (a b : Int) (w : World) (ha : InI a) (hb : InI b) (za : a ≠ 0) (zb : b ≠ 0) (sa : decide (a < 0) = true) (sb : decide (b < 0) = true) : Calls Try.prog 39 #[.int .i64 a, .int .i64 b] w fun e w' => e = .returned (optV (mulS a b)) ∧ w' = w := by
  have hm := (mul_signs a b).1 (by rw [sa, sb])
  have na : (a == 0) = false := beq_eq_false_iff_ne.2 za
  have nb : (b == 0) = false := beq_eq_false_iff_ne.2 zb
  have hA := size_p a w ha
  have hB := size_p b w hb
  have hM := Try.bits_Mul64 a.natAbs b.natAbs (natAbs_lt a ha) (natAbs_lt b hb) w
  generalize a.natAbs * b.natAbs = N at hm hM
  generalize a.natAbs = x at hA hM
  generalize b.natAbs = y at hB hM
  have hN : N / 18446744073709551616 * 18446744073709551616 + N % 18446744073709551616 = N := by omega
  have hl : N % 18446744073709551616 < 18446744073709551616 := by omega
  generalize N / 18446744073709551616 = h at hN hM
  generalize N % 18446744073709551616 = l at hN hM hl
  by_cases h0 : h = 0
  · subst h0
    by_cases h1 : 9223372036854775808 < l
    · have e : mulS a b = none := by unfold mulS; rw [hm, if_neg (by unfold InI; omega)]
      rw [e]; unfold optV
      obtain ⟨a1, a2⟩ := ha
      obtain ⟨b1, b2⟩ := hb
      clear hm hN za zb
      go_enter Try.func39, Try.ntmps39
      go_wp2_with fail
      refine hA.mono ?_
      rintro e w1 ⟨rfl, rfl⟩
      go_wp2_with fail
      refine hB.mono ?_
      rintro e w1 ⟨rfl, rfl⟩
      go_wp2_with fail
      refine hM.mono ?_
      rintro e w1 ⟨rfl, rfl⟩
      go_wp2_with fail
      go_ret2
      exact ⟨by first | rfl | (simp; done) | (simp; unfold wrap64; decide), rfl⟩
    · by_cases h2 : l = 9223372036854775808
      · subst h2
        have e : mulS a b = none := by unfold mulS; rw [hm, ← hN, if_neg (by unfold InI; omega)]
        rw [e]; unfold optV
        obtain ⟨a1, a2⟩ := ha
        obtain ⟨b1, b2⟩ := hb
        clear hm hN za zb
        go_enter Try.func39, Try.ntmps39
        go_wp2_with fail
        refine hA.mono ?_
        rintro e w1 ⟨rfl, rfl⟩
        go_wp2_with fail
        refine hB.mono ?_
        rintro e w1 ⟨rfl, rfl⟩
        go_wp2_with fail
        refine hM.mono ?_
        rintro e w1 ⟨rfl, rfl⟩
        go_wp2_with fail
        go_ret2
        exact ⟨by first | rfl | (simp; done) | (simp; unfold wrap64; decide), rfl⟩
      · have e : mulS a b = some ((l : Int)) := by unfold mulS; rw [hm, ← hN, if_pos (by unfold InI; omega), Nat.zero_mul, Nat.zero_add]
        rw [e]; unfold optV
        have n2 : ((l : Int) == 9223372036854775808) = false := beq_eq_false_iff_ne.2 (by omega)
        obtain ⟨a1, a2⟩ := ha
        obtain ⟨b1, b2⟩ := hb
        have h3 : l < 9223372036854775808 := by omega
        clear h1 h2 hl
        clear hm hN za zb
        go_enter Try.func39, Try.ntmps39
        go_wp2_with fail
        refine hA.mono ?_
        rintro e w1 ⟨rfl, rfl⟩
        go_wp2_with fail
        refine hB.mono ?_
        rintro e w1 ⟨rfl, rfl⟩
        go_wp2_with fail
        refine hM.mono ?_
        rintro e w1 ⟨rfl, rfl⟩
        go_wp2_with fail
        go_ret2
        exact ⟨by first | rfl | (simp; done) | (simp; unfold wrap64; decide), rfl⟩
  · have e : mulS a b = none := by unfold mulS; rw [hm, if_neg (by unfold InI; omega)]
    rw [e]; unfold optV
    have n1 : ((h : Int) != 0) = true := bne_iff_ne.2 (by omega)
    obtain ⟨a1, a2⟩ := ha
    obtain ⟨b1, b2⟩ := hb
    clear hm hN za zb
    go_enter Try.func39, Try.ntmps39
    go_wp2_with fail
    refine hA.mono ?_
    rintro e w1 ⟨rfl, rfl⟩
    go_wp2_with fail
    refine hB.mono ?_
    rintro e w1 ⟨rfl, rfl⟩
    go_wp2_with fail
    refine hM.mono ?_
    rintro e w1 ⟨rfl, rfl⟩
    go_wp2_with fail
    go_ret2
    exact ⟨by first | rfl | (simp; done) | (simp; unfold wrap64; decide), rfl⟩

theorem mul_p (a b : Int) (w : World) (ha : InI a) (hb : InI b) : Calls Try.prog 39 #[.int .i64 a, .int .i64 b] w fun e w' => e = .returned (optV (mulS a b)) ∧ w' = w := by
  by_cases h : a = 0 ∨ b = 0
  · exact mul_p_zero a b w h
  · have za : a ≠ 0 := fun h' => h (.inl h')
    have zb : b ≠ 0 := fun h' => h (.inr h')
    cases sa : decide (a < 0) <;> cases sb : decide (b < 0)
    · exact mul_p_00 a b w ha hb za zb sa sb
    · exact mul_p_01 a b w ha hb za zb sa sb
    · exact mul_p_10 a b w ha hb za zb sa sb
    · exact mul_p_11 a b w ha hb za zb sa sb


set_option maxHeartbeats 3200000 in
theorem mul_r_00 (a b : Int) (w : World) (ha : InI a) (hb : InI b) (sa : decide (a < 0) = false) (sb : decide (b < 0) = false) : Calls Try.prog 40 #[.int .i64 a, .int .i64 b] w fun e w' => e = .returned (optV (mulS a b)) ∧ w' = w := by
  have hm := (mul_signs a b).1 (by rw [sa, sb])
  have hA := size_r a w ha
  have hB := size_r b w hb
  have hx := natAbs_lt a ha
  obtain ⟨a1, a2⟩ := ha
  obtain ⟨b1, b2⟩ := hb
  generalize hN : a.natAbs * b.natAbs = N at hm
  generalize a.natAbs = x at hA hN hx
  generalize b.natAbs = y at hB hN
  by_cases h0 : x = 0
  · subst h0
    rw [Nat.zero_mul] at hN
    subst hN
    have e : mulS a b = some 0 := by unfold mulS; rw [hm, if_pos (by unfold InI; omega)]; rfl
    have h3 : a * b = 0 := by rw [hm]; rfl
    rw [e]; unfold optV
    clear hm e
    go_enter Try.func40, Try.ntmps40
    go_wp2_with fail
    refine hA.mono ?_
    rintro e w1 ⟨rfl, rfl⟩
    go_wp2_with fail
    refine hB.mono ?_
    rintro e w1 ⟨rfl, rfl⟩
    go_wp2_with fail
    go_ret2
    exact ⟨by first | rfl | (simp; done) | (simp; unfold wrap64; decide), rfl⟩
  · have n0 : ((x : Int) != 0) = true := bne_iff_ne.2 (by omega)
    have hx0 : 0 < x := by omega
    by_cases h : 9223372036854775807 / x < y
    · have h1 : 9223372036854775807 < N := by
        have := (Nat.div_lt_iff_lt_mul hx0).1 h
        rw [Nat.mul_comm, hN] at this
        exact this
      have e : mulS a b = none := by unfold mulS; rw [hm, if_neg (by unfold InI; omega)]
      rw [e]; unfold optV
      have d : decide ((9223372036854775807 : Int) / (x : Int) < (y : Int)) = true := by
        rw [decide_eq_true_iff, show (9223372036854775807 : Int) / (x : Int) = ((9223372036854775807 / x : Nat) : Int) from by simp]
        omega
      clear hN hm h h0
      go_enter Try.func40, Try.ntmps40
      go_wp2_with fail
      refine hA.mono ?_
      rintro e w1 ⟨rfl, rfl⟩
      go_wp2_with fail
      refine hB.mono ?_
      rintro e w1 ⟨rfl, rfl⟩
      go_wp2_with fail
      go_ret2
      exact ⟨by first | rfl | (simp; done) | (simp; unfold wrap64; decide), rfl⟩
    · have h1 : N ≤ 9223372036854775807 := by
        have h2 : y ≤ 9223372036854775807 / x := by omega
        have := (Nat.le_div_iff_mul_le hx0).1 h2
        rw [Nat.mul_comm, hN] at this
        exact this
      have e : mulS a b = some ((N : Int)) := by unfold mulS; rw [hm, if_pos (by unfold InI; omega)]
      rw [e]; unfold optV
      have d : decide ((9223372036854775807 : Int) / (x : Int) < (y : Int)) = false := by
        rw [decide_eq_false_iff_not, show (9223372036854775807 : Int) / (x : Int) = ((9223372036854775807 / x : Nat) : Int) from by simp]
        omega
      clear hN h h0 e
      go_enter Try.func40, Try.ntmps40
      go_wp2_with fail
      refine hA.mono ?_
      rintro e w1 ⟨rfl, rfl⟩
      go_wp2_with fail
      refine hB.mono ?_
      rintro e w1 ⟨rfl, rfl⟩
      go_wp2_with fail
      go_ret2
      exact ⟨by first | rfl | (simp; done) | (simp; unfold wrap64; decide), rfl⟩

set_option maxHeartbeats 3200000 in
theorem mul_r_01 (a b : Int) (w : World) (ha : InI a) (hb : InI b) (sa : decide (a < 0) = false) (sb : decide (b < 0) = true) : Calls Try.prog 40 #[.int .i64 a, .int .i64 b] w fun e w' => e = .returned (optV (mulS a b)) ∧ w' = w := by
  have hm := (mul_signs a b).2 (by rw [sa, sb]; decide)
  have hA := size_r a w ha
  have hB := size_r b w hb
  have hx := natAbs_lt a ha
  obtain ⟨a1, a2⟩ := ha
  obtain ⟨b1, b2⟩ := hb
  generalize hN : a.natAbs * b.natAbs = N at hm
  generalize a.natAbs = x at hA hN hx
  generalize b.natAbs = y at hB hN
  by_cases h0 : x = 0
  · subst h0
    rw [Nat.zero_mul] at hN
    subst hN
    have e : mulS a b = some 0 := by unfold mulS; rw [hm, if_pos (by unfold InI; omega)]; rfl
    have h3 : a * b = 0 := by rw [hm]; rfl
    rw [e]; unfold optV
    clear hm e
    go_enter Try.func40, Try.ntmps40
    go_wp2_with fail
    refine hA.mono ?_
    rintro e w1 ⟨rfl, rfl⟩
    go_wp2_with fail
    refine hB.mono ?_
    rintro e w1 ⟨rfl, rfl⟩
    go_wp2_with fail
    go_ret2
    exact ⟨by first | rfl | (simp; done) | (simp; unfold wrap64; decide), rfl⟩
  · have n0 : ((x : Int) != 0) = true := bne_iff_ne.2 (by omega)
    have hx0 : 0 < x := by omega
    by_cases h : 9223372036854775808 / x < y
    · have h1 : 9223372036854775808 < N := by
        have := (Nat.div_lt_iff_lt_mul hx0).1 h
        rw [Nat.mul_comm, hN] at this
        exact this
      have e : mulS a b = none := by unfold mulS; rw [hm, if_neg (by unfold InI; omega)]
      rw [e]; unfold optV
      have d : decide ((9223372036854775808 : Int) / (x : Int) < (y : Int)) = true := by
        rw [decide_eq_true_iff, show (9223372036854775808 : Int) / (x : Int) = ((9223372036854775808 / x : Nat) : Int) from by simp]
        omega
      clear hN hm h h0
      go_enter Try.func40, Try.ntmps40
      go_wp2_with fail
      refine hA.mono ?_
      rintro e w1 ⟨rfl, rfl⟩
      go_wp2_with fail
      refine hB.mono ?_
      rintro e w1 ⟨rfl, rfl⟩
      go_wp2_with fail
      go_ret2
      exact ⟨by first | rfl | (simp; done) | (simp; unfold wrap64; decide), rfl⟩
    · have h1 : N ≤ 9223372036854775808 := by
        have h2 : y ≤ 9223372036854775808 / x := by omega
        have := (Nat.le_div_iff_mul_le hx0).1 h2
        rw [Nat.mul_comm, hN] at this
        exact this
      have e : mulS a b = some (-(N : Int)) := by unfold mulS; rw [hm, if_pos (by unfold InI; omega)]
      rw [e]; unfold optV
      have d : decide ((9223372036854775808 : Int) / (x : Int) < (y : Int)) = false := by
        rw [decide_eq_false_iff_not, show (9223372036854775808 : Int) / (x : Int) = ((9223372036854775808 / x : Nat) : Int) from by simp]
        omega
      clear hN h h0 e
      go_enter Try.func40, Try.ntmps40
      go_wp2_with fail
      refine hA.mono ?_
      rintro e w1 ⟨rfl, rfl⟩
      go_wp2_with fail
      refine hB.mono ?_
      rintro e w1 ⟨rfl, rfl⟩
      go_wp2_with fail
      go_ret2
      exact ⟨by first | rfl | (simp; done) | (simp; unfold wrap64; decide), rfl⟩

set_option maxHeartbeats 3200000 in
theorem mul_r_10 (a b : Int) (w : World) (ha : InI a) (hb : InI b) (sa : decide (a < 0) = true) (sb : decide (b < 0) = false) : Calls Try.prog 40 #[.int .i64 a, .int .i64 b] w fun e w' => e = .returned (optV (mulS a b)) ∧ w' = w := by
  have hm := (mul_signs a b).2 (by rw [sa, sb]; decide)
  have hA := size_r a w ha
  have hB := size_r b w hb
  have hx := natAbs_lt a ha
  obtain ⟨a1, a2⟩ := ha
  obtain ⟨b1, b2⟩ := hb
  generalize hN : a.natAbs * b.natAbs = N at hm
  generalize a.natAbs = x at hA hN hx
  generalize b.natAbs = y at hB hN
  by_cases h0 : x = 0
  · subst h0
    rw [Nat.zero_mul] at hN
    subst hN
    have e : mulS a b = some 0 := by unfold mulS; rw [hm, if_pos (by unfold InI; omega)]; rfl
    have h3 : a * b = 0 := by rw [hm]; rfl
    rw [e]; unfold optV
    clear hm e
    go_enter Try.func40, Try.ntmps40
    go_wp2_with fail
    refine hA.mono ?_
    rintro e w1 ⟨rfl, rfl⟩
    go_wp2_with fail
    refine hB.mono ?_
    rintro e w1 ⟨rfl, rfl⟩
    go_wp2_with fail
    go_ret2
    exact ⟨by first | rfl | (simp; done) | (simp; unfold wrap64; decide), rfl⟩
  · have n0 : ((x : Int) != 0) = true := bne_iff_ne.2 (by omega)
    have hx0 : 0 < x := by omega
    by_cases h : 9223372036854775808 / x < y
    · have h1 : 9223372036854775808 < N := by
        have := (Nat.div_lt_iff_lt_mul hx0).1 h
        rw [Nat.mul_comm, hN] at this
        exact this
      have e : mulS a b = none := by unfold mulS; rw [hm, if_neg (by unfold InI; omega)]
      rw [e]; unfold optV
      have d : decide ((9223372036854775808 : Int) / (x : Int) < (y : Int)) = true := by
        rw [decide_eq_true_iff, show (9223372036854775808 : Int) / (x : Int) = ((9223372036854775808 / x : Nat) : Int) from by simp]
        omega
      clear hN hm h h0
      go_enter Try.func40, Try.ntmps40
      go_wp2_with fail
      refine hA.mono ?_
      rintro e w1 ⟨rfl, rfl⟩
      go_wp2_with fail
      refine hB.mono ?_
      rintro e w1 ⟨rfl, rfl⟩
      go_wp2_with fail
      go_ret2
      exact ⟨by first | rfl | (simp; done) | (simp; unfold wrap64; decide), rfl⟩
    · have h1 : N ≤ 9223372036854775808 := by
        have h2 : y ≤ 9223372036854775808 / x := by omega
        have := (Nat.le_div_iff_mul_le hx0).1 h2
        rw [Nat.mul_comm, hN] at this
        exact this
      have e : mulS a b = some (-(N : Int)) := by unfold mulS; rw [hm, if_pos (by unfold InI; omega)]
      rw [e]; unfold optV
      have d : decide ((9223372036854775808 : Int) / (x : Int) < (y : Int)) = false := by
        rw [decide_eq_false_iff_not, show (9223372036854775808 : Int) / (x : Int) = ((9223372036854775808 / x : Nat) : Int) from by simp]
        omega
      clear hN h h0 e
      go_enter Try.func40, Try.ntmps40
      go_wp2_with fail
      refine hA.mono ?_
      rintro e w1 ⟨rfl, rfl⟩
      go_wp2_with fail
      refine hB.mono ?_
      rintro e w1 ⟨rfl, rfl⟩
      go_wp2_with fail
      go_ret2
      exact ⟨by first | rfl | (simp; done) | (simp; unfold wrap64; decide), rfl⟩

set_option maxHeartbeats 3200000 in
theorem mul_r_11 (a b : Int) (w : World) (ha : InI a) (hb : InI b) (sa : decide (a < 0) = true) (sb : decide (b < 0) = true) : Calls Try.prog 40 #[.int .i64 a, .int .i64 b] w fun e w' => e = .returned (optV (mulS a b)) ∧ w' = w := by
  have hm := (mul_signs a b).1 (by rw [sa, sb])
  have hA := size_r a w ha
  have hB := size_r b w hb
  have hx := natAbs_lt a ha
  obtain ⟨a1, a2⟩ := ha
  obtain ⟨b1, b2⟩ := hb
  generalize hN : a.natAbs * b.natAbs = N at hm
  generalize a.natAbs = x at hA hN hx
  generalize b.natAbs = y at hB hN
  by_cases h0 : x = 0
  · subst h0
    rw [Nat.zero_mul] at hN
    subst hN
    have e : mulS a b = some 0 := by unfold mulS; rw [hm, if_pos (by unfold InI; omega)]; rfl
    have h3 : a * b = 0 := by rw [hm]; rfl
    rw [e]; unfold optV
    clear hm e
    go_enter Try.func40, Try.ntmps40
    go_wp2_with fail
    refine hA.mono ?_
    rintro e w1 ⟨rfl, rfl⟩
    go_wp2_with fail
    refine hB.mono ?_
    rintro e w1 ⟨rfl, rfl⟩
    go_wp2_with fail
    go_ret2
    exact ⟨by first | rfl | (simp; done) | (simp; unfold wrap64; decide), rfl⟩
  · have n0 : ((x : Int) != 0) = true := bne_iff_ne.2 (by omega)
    have hx0 : 0 < x := by omega
    by_cases h : 9223372036854775807 / x < y
    · have h1 : 9223372036854775807 < N := by
        have := (Nat.div_lt_iff_lt_mul hx0).1 h
        rw [Nat.mul_comm, hN] at this
        exact this
      have e : mulS a b = none := by unfold mulS; rw [hm, if_neg (by unfold InI; omega)]
      rw [e]; unfold optV
      have d : decide ((9223372036854775807 : Int) / (x : Int) < (y : Int)) = true := by
        rw [decide_eq_true_iff, show (9223372036854775807 : Int) / (x : Int) = ((9223372036854775807 / x : Nat) : Int) from by simp]
        omega
      clear hN hm h h0
      go_enter Try.func40, Try.ntmps40
      go_wp2_with fail
      refine hA.mono ?_
      rintro e w1 ⟨rfl, rfl⟩
      go_wp2_with fail
      refine hB.mono ?_
      rintro e w1 ⟨rfl, rfl⟩
      go_wp2_with fail
      go_ret2
      exact ⟨by first | rfl | (simp; done) | (simp; unfold wrap64; decide), rfl⟩
    · have h1 : N ≤ 9223372036854775807 := by
        have h2 : y ≤ 9223372036854775807 / x := by omega
        have := (Nat.le_div_iff_mul_le hx0).1 h2
        rw [Nat.mul_comm, hN] at this
        exact this
      have e : mulS a b = some ((N : Int)) := by unfold mulS; rw [hm, if_pos (by unfold InI; omega)]
      rw [e]; unfold optV
      have d : decide ((9223372036854775807 : Int) / (x : Int) < (y : Int)) = false := by
        rw [decide_eq_false_iff_not, show (9223372036854775807 : Int) / (x : Int) = ((9223372036854775807 / x : Nat) : Int) from by simp]
        omega
      clear hN h h0 e
      go_enter Try.func40, Try.ntmps40
      go_wp2_with fail
      refine hA.mono ?_
      rintro e w1 ⟨rfl, rfl⟩
      go_wp2_with fail
      refine hB.mono ?_
      rintro e w1 ⟨rfl, rfl⟩
      go_wp2_with fail
      go_ret2
      exact ⟨by first | rfl | (simp; done) | (simp; unfold wrap64; decide), rfl⟩

theorem mul_r (a b : Int) (w : World) (ha : InI a) (hb : InI b) : Calls Try.prog 40 #[.int .i64 a, .int .i64 b] w fun e w' => e = .returned (optV (mulS a b)) ∧ w' = w := by
  cases sa : decide (a < 0) <;> cases sb : decide (b < 0)
  · exact mul_r_00 a b w ha hb sa sb
  · exact mul_r_01 a b w ha hb sa sb
  · exact mul_r_10 a b w ha hb sa sb
  · exact mul_r_11 a b w ha hb sa sb
end Go.Proofs.Ytepkboilfgmkkaa
