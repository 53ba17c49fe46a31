/- nums.Big and the reference's own: what they read. (Printed by gen/numsbigget.py.) -/
import Derived.Test.YtehcbgnoiogncaaNumsBig
namespace Go.Proofs.Ytehcbgnoiogncaa
open Go.RowKit
open PackMath
set_option linter.unusedVariables false

theorem big_or (acc x i : Nat) (h : acc < 2 ^ (8 * i)) (hx : x < 256) (hi : i < 8) : bits .or .u64 (IntKind.u64.wrap ((acc : Int) * 256)) (x : Int) = ((acc * 256 + x : Nat) : Int) ∧ acc * 256 + x < 2 ^ (8 * (i + 1)) := by
  have e : 2 ^ (8 * (i + 1)) = 2 ^ (8 * i) * 256 := by rw [Nat.mul_add, Nat.pow_add]
  have h1 : acc * 256 + x < 2 ^ (8 * (i + 1)) := by rw [e]; omega
  have h2 : 2 ^ (8 * (i + 1)) ≤ 2 ^ 64 := Nat.pow_le_pow_right (by decide) (by omega)
  have e1 : IntKind.u64.wrap ((acc : Int) * 256) = ((2 ^ 8 * acc : Nat) : Int) := by rw [IntKind.wrap_u64]; omega
  refine ⟨?_, h1⟩
  rw [e1, bits_or_u64 _ _ (by omega) (by omega), ← Nat.two_pow_add_eq_or_of_lt (by omega)]
  congr 1
  omega
theorem bigV_nil (acc : Nat) : bigV [] acc = acc := rfl
theorem bigV_cons (c : Nat) (l : List Nat) (acc : Nat) : bigV (c :: l) acc = bigV l (acc * 256 + c) := rfl
theorem part_cons (bs : List Nat) (k m i : Nat) (h : k + m ≤ bs.length) (hi : i < m) : ((bs.drop k).take m).drop i = bs[k + i]'(by omega) :: ((bs.drop k).take m).drop (i + 1) := by
  rw [List.drop_eq_getElem_cons (by rw [List.length_take, List.length_drop]; omega), List.getElem_take, List.getElem_drop]


set_option maxHeartbeats 1600000 in
set_option maxRecDepth 4000 in
theorem big_p_in (A : Option Addr) (n c : Nat) (bs : List Nat) (k m : Nat) (w : World) (hb : Sl w A n c (nats .u8 bs)) (hbs : ∀ x ∈ bs, x < 256) (hm1 : 1 ≤ m) (hm8 : m ≤ 8) (hkm : k + m ≤ n) :
    Calls Try.prog 40 #[.slice A n c, .int .i64 (k : Int), .int .i64 (m : Int)] w fun e w' => e = .returned (bigVal (bigV ((bs.drop k).take m) 0, true)) ∧ w' = w := by
  have hle := hb.le
  have hmax := hb.max
  unfold maxLen at hmax
  have hlen := hb.len
  rw [nats_length] at hlen
  obtain ⟨b, off, rfl, hbw, hcell⟩ := hb.at_ (by omega)
  have hck : ¬ c = k := by omega
  have d1 : decide ((m : Int) < 1) = false := decide_eq_false (by omega)
  have d2 : decide (8 < (m : Int)) = false := decide_eq_false (by omega)
  have Hlen := Lib.hid hlen
  have Hbs := Lib.hid hbs
  have Hcell := Lib.hid hcell
  clear hlen hbs hb hcell
  generalize hR : bigV ((bs.drop k).take m) 0 = R
  have HR := Lib.hid hR
  clear hR
  go_enter Try.func40, Try.ntmps40
  go_wp2_with fail
  go_loopw [8, 42] (fun vv ix wr => ∃ i acc : Nat, i ≤ m ∧ acc < 2 ^ (8 * i) ∧ vv = .int .u64 (acc : Int) ∧ ix = .int .i64 (i : Int) ∧ bigV (((bs.drop k).take m).drop i) acc = R ∧ wr = w) (fun _ ix _ => m - (intOf ix).toNat)
  case atStart => exact ⟨0, 0, Nat.zero_le _, by decide, rfl, rfl, HR.out, by first | rfl | trivial⟩
  case round =>
    obtain ⟨i, acc, hi, hacc, rfl, rfl, hRi, hw⟩ := hrel
    have HRi := Lib.hid hRi
    have Hacc := Lib.hid hacc
    clear hRi hacc
    by_cases hlt : i < m
    · have hcl := Hcell.out (k + i) (by omega)
      have hl := Hlen.out
      rw [nats_getD _ _ _ (by omega), getD_eq _ _ (by omega)] at hcl
      rw [← Nat.add_assoc] at hcl
      have hx := Hbs.out _ (List.getElem_mem (by omega : k + i < bs.length))
      have hR1 := HRi.out
      rw [part_cons _ _ _ _ (by omega) hlt, bigV_cons] at hR1
      generalize bs[k + i]'(by omega) = x at hcl hx hR1
      have hv := big_or acc x i Hacc.out hx (by omega)
      have HR1 := Lib.hid hR1
      have Hv := Lib.hid hv
      clear hl hv hR1
      go_wp2_with fail
      exact ⟨⟨i + 1, _, by omega, Hv.out.2, congrArg (Value.int .u64) Hv.out.1, by go_num, HR1.out, by first | rfl | trivial⟩, by simp only [intOf]; omega⟩
    · have hin : i = m := by omega
      have hR1 := HRi.out
      rw [List.drop_eq_nil_of_le (by rw [List.length_take]; omega), bigV_nil] at hR1
      have HR1 := Lib.hid hR1
      clear hR1
      subst hin
      go_wp2_with fail
      go_ret2
      rw [← HR1.out]
      unfold bigVal
      exact ⟨by first | rfl | simp, by first | rfl | assumption⟩

set_option maxHeartbeats 1600000 in
theorem big_p_out (A : Option Addr) (n c : Nat) (bs : List Nat) (k m : Int) (w : World) (hb : Sl w A n c (nats .u8 bs)) (h0 : -9223372036854775808 ≤ k) (h1 : k ≤ 9223372036854775807) (h2 : -9223372036854775808 ≤ m) (h3 : m ≤ 9223372036854775807) (ho : bigOut n k m) :
    Calls Try.prog 40 #[.slice A n c, .int .i64 k, .int .i64 m] w fun e w' => e = .returned (bigVal (0, false)) ∧ w' = w := by
  have hle := hb.le
  have hmax := hb.max
  unfold maxLen at hmax
  clear hb
  unfold bigVal
  by_cases c0 : m < 1
  · have d0 : decide (m < 1) = true := decide_eq_true c0
    go_enter Try.func40, Try.ntmps40
    go_wp2
    go_ret2
    exact ⟨by first | rfl | simp, rfl⟩
  have d0 : decide (m < 1) = false := decide_eq_false c0
  by_cases c1 : 8 < m
  · have d1 : decide (8 < m) = true := decide_eq_true c1
    go_enter Try.func40, Try.ntmps40
    go_wp2
    go_ret2
    exact ⟨by first | rfl | simp, rfl⟩
  have d1 : decide (8 < m) = false := decide_eq_false c1
  by_cases c2 : k < 0
  · have d2 : decide (k < 0) = true := decide_eq_true c2
    go_enter Try.func40, Try.ntmps40
    go_wp2
    go_ret2
    exact ⟨by first | rfl | simp, rfl⟩
  have d2 : decide (k < 0) = false := decide_eq_false c2
  by_cases c3 : (n : Int) < k
  · have d3 : decide ((n : Int) < k) = true := decide_eq_true c3
    go_enter Try.func40, Try.ntmps40
    go_wp2
    go_ret2
    exact ⟨by first | rfl | simp, rfl⟩
  have d3 : decide ((n : Int) < k) = false := decide_eq_false c3
  have c4 : (n : Int) - k < m := by unfold bigOut at ho; omega
  have d4 : decide ((n : Int) - k < m) = true := decide_eq_true c4
  go_enter Try.func40, Try.ntmps40
  go_wp2
  go_ret2
  exact ⟨by first | rfl | simp, rfl⟩

theorem bigp (A : Option Addr) (n c : Nat) (bs : List Nat) (k m : Int) (w : World) (hb : Sl w A n c (nats .u8 bs)) (hbs : ∀ x ∈ bs, x < 256) (h0 : -9223372036854775808 ≤ k) (h1 : k ≤ 9223372036854775807) (h2 : -9223372036854775808 ≤ m) (h3 : m ≤ 9223372036854775807) :
    Calls Try.prog 40 #[.slice A n c, .int .i64 k, .int .i64 m] w fun e w' => e = .returned (bigVal (bigS bs k m)) ∧ w' = w := by
  have hl := hb.len
  rw [nats_length] at hl
  unfold bigS
  by_cases h : bigOut bs.length k m
  · rw [if_pos h]; rw [hl] at h; exact big_p_out A n c bs k m w hb h0 h1 h2 h3 h
  · rw [if_neg h]
    unfold bigOut at h
    obtain ⟨j, rfl⟩ : ∃ j : Nat, k = (j : Int) := ⟨k.toNat, by omega⟩
    obtain ⟨i, rfl⟩ : ∃ i : Nat, m = (i : Int) := ⟨m.toNat, by omega⟩
    exact big_p_in A n c bs j i w hb hbs (by omega) (by omega) (by omega)

end Go.Proofs.Ytehcbgnoiogncaa
