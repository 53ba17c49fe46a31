/- nums.Var and the reference's own: what they answer. -/
import Derived.Test.YtihclbiohljmlaaBits
import Derived.Test.YtihclbiohljmlaaOps
import Derived.Test.YtihclbiohljmlaaPackMath
import Derived.Deep.DeepCutAuto
namespace Go.Proofs.Ytihclbiohljmlaa
open Go.RowKit
open PackMath
set_option linter.unusedVariables false

/-- A number's bytes read: value, how many, which error. -/
def varR : List Nat → Nat → Nat → Nat × Nat × Nat
  | [], _, _ => (0, 0, 3)
  | c :: l, i, acc => if i = 9 ∧ 1 < c then (0, 0, 4) else if c < 128 then (acc + c % 128 * 2 ^ (7 * i), i + 1, 0) else varR l (i + 1) (acc + c % 128 * 2 ^ (7 * i))
def varS (bs : List Nat) (at_ : Int) : Nat × Nat × Nat := if at_ < 0 ∨ (bs.length : Int) < at_ then (0, 0, 1) else varR (bs.drop at_.toNat) 0 0
def varV (r : Nat × Nat × Nat) : Value := .tuple #[.int .u64 (r.1 : Int), .int .i64 (r.2.1 : Int), .int .i64 (r.2.2 : Int)]

theorem varR_nil (i acc : Nat) : varR [] i acc = (0, 0, 3) := rfl
theorem varR_long (c : Nat) (l : List Nat) (acc : Nat) (h : 1 < c) : varR (c :: l) 9 acc = (0, 0, 4) := by unfold varR; rw [if_pos ⟨rfl, h⟩]
theorem varR_last (c : Nat) (l : List Nat) (i acc : Nat) (h : ¬ (i = 9 ∧ 1 < c)) (hc : c < 128) : varR (c :: l) i acc = (acc + c % 128 * 2 ^ (7 * i), i + 1, 0) := by unfold varR; rw [if_neg h, if_pos hc]
theorem varR_more (c : Nat) (l : List Nat) (i acc : Nat) (h : ¬ (i = 9 ∧ 1 < c)) (hc : ¬ c < 128) : varR (c :: l) i acc = varR l (i + 1) (acc + c % 128 * 2 ^ (7 * i)) := by rw [varR, if_neg h, if_neg hc]

/-- What a byte adds to the number: no carry. -/
theorem var_or (acc c i : Nat) (h : acc < 2 ^ (7 * i)) (hi : i ≤ 9) (hc : i = 9 → c % 128 ≤ 1) : acc ||| c % 128 * 2 ^ (7 * i) = acc + c % 128 * 2 ^ (7 * i) ∧ acc + c % 128 * 2 ^ (7 * i) < 18446744073709551616 ∧ (i < 9 → acc + c % 128 * 2 ^ (7 * i) < 2 ^ (7 * (i + 1))) := by
  have h1 := Nat.two_pow_add_eq_or_of_lt h (c % 128)
  have h2 : c % 128 < 128 := Nat.mod_lt _ (by decide)
  generalize c % 128 = d at *
  have e : 2 ^ (7 * (i + 1)) = 128 * 2 ^ (7 * i) := by rw [Nat.mul_add, Nat.pow_add, Nat.mul_comm]
  have h3 : d * 2 ^ (7 * i) ≤ 127 * 2 ^ (7 * i) := Nat.mul_le_mul_right _ (by omega)
  refine ⟨by rw [Nat.or_comm, Nat.mul_comm, ← h1, Nat.add_comm], ?_, fun h9 => by rw [e]; omega⟩
  by_cases h9 : i = 9
  · subst h9
    have h4 : d * 2 ^ (7 * 9) ≤ 1 * 2 ^ (7 * 9) := Nat.mul_le_mul_right _ (hc rfl)
    rw [show 2 ^ (7 * 9) = 9223372036854775808 from rfl] at *
    omega
  · have h5 : 2 ^ (7 * (i + 1)) ≤ 2 ^ 63 := Nat.pow_le_pow_right (by decide) (by omega)
    rw [e] at h5
    have h6 : (2 : Nat) ^ 63 = 9223372036854775808 := rfl
    omega

theorem var_bits (acc d i : Nat) (hd : d < 256) (h1 : acc ||| d * 2 ^ (7 * i) = acc + d * 2 ^ (7 * i)) (h2 : acc + d * 2 ^ (7 * i) < 18446744073709551616) :
    bits .or .u64 (acc : Int) (IntKind.u64.wrap ((d : Int) * 2 ^ (7 * i))) = ((acc + d * 2 ^ (7 * i) : Nat) : Int) := by
  have e2 : (d : Int) * 2 ^ (7 * i) = ((d * 2 ^ (7 * i) : Nat) : Int) := by simp
  rw [e2]
  generalize d * 2 ^ (7 * i) = m at *
  have e3 : IntKind.u64.wrap (m : Int) = (m : Int) := by rw [IntKind.wrap_u64]; omega
  rw [e3, bits_or_u64 _ _ (by omega) (by omega), h1]

set_option maxRecDepth 20000 in
theorem andnot_128 (x : Nat) (h : x < 256) : bits .andNot .u8 (x : Int) 128 = ((x % 128 : Nat) : Int) := by
  have : ∀ x : Fin 256, bits .andNot .u8 ((x.val : Nat) : Int) 128 = ((x.val % 128 : Nat) : Int) := by decide
  exact this ⟨x, h⟩

set_option maxHeartbeats 1600000 in
set_option maxRecDepth 4000 in
theorem var_p (A : Option Addr) (n c : Nat) (bs : List Nat) (k : Nat) (w : World) (hb : Sl w A n c (nats .u8 bs)) (hbs : ∀ x ∈ bs, x < 256) (hk : k ≤ n) :
    Calls Try.prog 46 #[.slice A n c, .int .i64 (k : Int)] w fun e w' => e = .returned (varV (varR (bs.drop k) 0 0)) ∧ w' = w := by
  have hle := hb.le
  have hmax := hb.max
  unfold maxLen at hmax
  have hlen := hb.len
  rw [nats_length] at hlen
  by_cases hkn : k < n
  · have hck : ¬ c = k := by omega
    obtain ⟨b, off, rfl, hbw, hcell⟩ := hb.at_ (by omega)
    have Hlen := Lib.hid hlen
    have Hbs := Lib.hid hbs
    clear hlen hbs hb
    have Hcell := Lib.hid hcell
    clear hcell
    generalize hR : varR (bs.drop k) 0 0 = R
    have HR := Lib.hid hR
    clear hR
    go_enter Try.func46, Try.ntmps46
    go_wp2_with fail
    go_loopw [4, 21] (fun vv ix wr => ∃ i acc : Nat, i ≤ n - k ∧ i ≤ 9 ∧ acc < 2 ^ (7 * i) ∧ vv = .int .u64 (acc : Int) ∧ ix = .int .i64 (i : Int) ∧ varR (bs.drop (k + i)) i acc = R ∧ wr = w) (fun _ ix _ => n - (intOf ix).toNat)
    case atStart => exact ⟨0, 0, Nat.zero_le _, by decide, by decide, rfl, rfl, HR.out, by first | rfl | trivial⟩
    case round =>
      obtain ⟨i, acc, hi, hi9, hacc, rfl, rfl, hRi, hw⟩ := hrel
      have HRi := Lib.hid hRi
      have Hacc := Lib.hid hacc
      clear hRi hacc
      by_cases hlt : i < n - k
      · have hcl := Hcell.out (k + i) (by omega)
        have hl := Hlen.out
        rw [nats_getD _ _ _ (by omega), getD_eq _ _ (by omega), ← Nat.add_assoc] at hcl
        have hx := Hbs.out _ (List.getElem_mem (by omega : k + i < bs.length))
        have hR1 := HRi.out
        rw [List.drop_eq_getElem_cons (by omega)] at hR1
        generalize bs[k + i]'(by omega) = x at hcl hx hR1
        have ha := andnot_128 x hx
        have hv := var_or acc x i Hacc.out hi9
        clear hl
        by_cases h9 : i = 9 ∧ 1 < x
        · obtain ⟨rfl, h1⟩ := h9
          rw [varR_long _ _ _ h1] at hR1
          subst hR1
          clear ha hv
          go_wp2_with fail
          go_ret3
          unfold varV
          exact ⟨by first | rfl | simp, by first | rfl | assumption⟩
        · have hv' := hv (by omega)
          have h10 : i = 9 → x ≤ 1 ∧ x < 128 := by omega
          clear hv
          by_cases hc : x < 128
          · rw [varR_last _ _ _ _ h9 hc] at hR1
            have hd : x % 128 < 256 := by omega
            generalize x % 128 = d at *
            have HR1 := Lib.hid hR1
            have Hv := Lib.hid (var_bits acc d i hd hv'.1 hv'.2.1)
            clear hv' h9 hR1
            by_cases hi9' : i = 9
            · have hx1 := (h10 hi9').1
              have hb9 : ((i : Int) == 9) = true := by rw [beq_iff_eq]; omega
              clear h10 hi9'
              go_wp2_with fail
              go_ret3
              rw [← HR1.out]
              exact ⟨congrArg (fun z => Ending.returned (.tuple #[.int .u64 z, _, _])) Hv.out, by first | rfl | assumption⟩
            · have hb9 : ((i : Int) == 9) = false := beq_eq_false_iff_ne.2 (by omega)
              clear h10
              go_wp2_with fail
              go_ret3
              rw [← HR1.out]
              exact ⟨congrArg (fun z => Ending.returned (.tuple #[.int .u64 z, _, _])) Hv.out, by first | rfl | assumption⟩
          · rw [varR_more _ _ _ _ h9 hc] at hR1
            have hd : x % 128 < 256 := by omega
            generalize x % 128 = d at *
            have hi9' : ¬ i = 9 := by omega
            have hb9 : ((i : Int) == 9) = false := beq_eq_false_iff_ne.2 (by omega)
            have Hw := Lib.hid (hv'.2.2 (by omega))
            have Hv := Lib.hid (var_bits acc d i hd hv'.1 hv'.2.1)
            have HR1 := Lib.hid hR1
            clear hv' h9 h10 hR1
            go_wp2_with fail
            exact ⟨⟨i + 1, _, by omega, by omega, Hw.out, congrArg (Value.int .u64) Hv.out, by go_num, HR1.out, by first | rfl | trivial⟩, by simp only [intOf]; omega⟩
      · have hin : i = n - k := by omega
        have hR1 := HRi.out
        have hl := Hlen.out
        rw [List.drop_eq_nil_of_le (by omega), varR_nil] at hR1
        subst hR1
        clear hl
        subst hin
        go_wp2_with fail
        go_ret3
        unfold varV
        exact ⟨by first | rfl | simp, by first | rfl | assumption⟩
  · have hkn' : k = n := by omega
    subst hkn'
    have e : varR (bs.drop k) 0 0 = (0, 0, 3) := by rw [List.drop_eq_nil_of_le (by omega)]; rfl
    rw [e]
    clear hb hbs e
    go_enter Try.func46, Try.ntmps46
    go_wp2
    all_goals go_loopw [4, 21] (fun vv ix wr => ix = .int .i64 0 ∧ wr = w) (fun _ _ _ => 0)
    all_goals first
      | exact ⟨rfl, by first | rfl | trivial⟩
      | (obtain ⟨rfl, hw⟩ := hrel
         go_wp2_with fail
         go_ret3
         unfold varV
         exact ⟨by first | rfl | simp, by first | rfl | assumption⟩)

theorem and_127 (x : Nat) (h : x < 256) : bits .and .u8 (x : Int) 127 = ((x % 128 : Nat) : Int) := by
  rw [show (127 : Int) = ((127 : Nat) : Int) from rfl, bits_and_u8 _ _ h (by decide), show (127 : Nat) = 2 ^ 7 - 1 from rfl, Nat.and_two_pow_sub_one_eq_mod]

set_option maxHeartbeats 1600000 in
set_option maxRecDepth 4000 in
theorem var_r (A : Option Addr) (n c : Nat) (bs : List Nat) (k : Nat) (w : World) (hb : Sl w A n c (nats .u8 bs)) (hbs : ∀ x ∈ bs, x < 256) (hk : k ≤ n) :
    Calls Try.prog 48 #[.slice A n c, .int .i64 (k : Int)] w fun e w' => e = .returned (varV (varR (bs.drop k) 0 0)) ∧ w' = w := by
  have hle := hb.le
  have hmax := hb.max
  unfold maxLen at hmax
  have hlen := hb.len
  rw [nats_length] at hlen
  have Hlen := Lib.hid hlen
  have Hbs := Lib.hid hbs
  have Hb := Lib.hid hb
  clear hlen hbs hb
  generalize hR : varR (bs.drop k) 0 0 = R
  have HR := Lib.hid hR
  clear hR
  have hkn : k ≤ 9223372036854775807 - (n - k) := by omega
  go_enter Try.func48, Try.ntmps48
  go_wp2_with fail
  go_loopw [7, 8] (fun vv ix wr => ∃ i acc : Nat, i ≤ n - k ∧ i ≤ 9 ∧ acc < 2 ^ (7 * i) ∧ vv = .int .u64 (acc : Int) ∧ ix = .int .i64 (i : Int) ∧ varR (bs.drop (k + i)) i acc = R ∧ wr = w) (fun _ ix _ => n - (intOf ix).toNat)
  case atStart => exact ⟨0, 0, Nat.zero_le _, by decide, by decide, rfl, rfl, HR.out, by first | rfl | trivial⟩
  case round =>
    obtain ⟨i, acc, hi, hi9, hacc, rfl, rfl, hRi, hw⟩ := hrel
    have HRi := Lib.hid hRi
    have Hacc := Lib.hid hacc
    clear hRi hacc
    by_cases hlt : i < n - k
    · obtain ⟨b, off, rfl, hbw, hcell⟩ := Hb.out.at_ (by omega)
      have hcl := hcell (k + i) (by omega)
      clear hcell
      have hl := Hlen.out
      rw [nats_getD _ _ _ (by omega), getD_eq _ _ (by omega)] at hcl
      have hx := Hbs.out _ (List.getElem_mem (by omega : k + i < bs.length))
      have hR1 := HRi.out
      rw [List.drop_eq_getElem_cons (by omega)] at hR1
      generalize bs[k + i]'(by omega) = x at hcl hx hR1
      have ha := and_127 x hx
      have hv := var_or acc x i Hacc.out hi9
      have hne : ((k : Int) + (i : Int) == (n : Int)) = false := beq_eq_false_iff_ne.2 (by omega)
      clear hl
      by_cases h9 : i = 9 ∧ 1 < x
      · obtain ⟨rfl, h1⟩ := h9
        rw [varR_long _ _ _ h1] at hR1
        subst hR1
        clear ha hv
        go_wp2_with fail
        go_ret3
        unfold varV
        exact ⟨by first | rfl | simp, by first | rfl | assumption⟩
      · have hv' := hv (by omega)
        have h10 : i = 9 → x ≤ 1 ∧ x < 128 := by omega
        clear hv
        by_cases hc : x < 128
        · rw [varR_last _ _ _ _ h9 hc] at hR1
          have hd : x % 128 < 256 := by omega
          generalize x % 128 = d at *
          have HR1 := Lib.hid hR1
          have Hv := Lib.hid (var_bits acc d i hd hv'.1 hv'.2.1)
          clear hv' h9 hR1
          by_cases hi9' : i = 9
          · have hx1 := (h10 hi9').1
            have hb9 : ((i : Int) == 9) = true := by rw [beq_iff_eq]; omega
            clear h10 hi9'
            go_wp2_with fail
            go_ret3
            rw [← HR1.out]
            exact ⟨congrArg (fun z => Ending.returned (.tuple #[.int .u64 z, _, _])) Hv.out, by first | rfl | assumption⟩
          · have hb9 : ((i : Int) == 9) = false := beq_eq_false_iff_ne.2 (by omega)
            clear h10
            go_wp2_with fail
            go_ret3
            rw [← HR1.out]
            exact ⟨congrArg (fun z => Ending.returned (.tuple #[.int .u64 z, _, _])) Hv.out, by first | rfl | assumption⟩
        · rw [varR_more _ _ _ _ h9 hc] at hR1
          have hd : x % 128 < 256 := by omega
          generalize x % 128 = d at *
          have hi9' : ¬ i = 9 := by omega
          have hb9 : ((i : Int) == 9) = false := beq_eq_false_iff_ne.2 (by omega)
          have Hw := Lib.hid (hv'.2.2 (by omega))
          have Hv := Lib.hid (var_bits acc d i hd hv'.1 hv'.2.1)
          have HR1 := Lib.hid hR1
          clear hv' h9 h10 hR1
          go_wp2_with fail
          exact ⟨⟨i + 1, _, by omega, by omega, Hw.out, congrArg (Value.int .u64) Hv.out, by go_num, HR1.out, by first | rfl | trivial⟩, by simp only [intOf]; omega⟩
    · have hin : i = n - k := by omega
      have hR1 := HRi.out
      have hl := Hlen.out
      rw [List.drop_eq_nil_of_le (by omega), varR_nil] at hR1
      subst hR1
      have hne : ((k : Int) + (i : Int) == (n : Int)) = true := by rw [beq_iff_eq]; omega
      clear hl
      go_wp2_with fail
      go_ret3
      unfold varV
      exact ⟨by first | rfl | simp, by first | rfl | assumption⟩

set_option maxHeartbeats 800000 in
theorem var_p_out (A : Option Addr) (n c : Nat) (bs : List Nat) (k : Int) (w : World) (hb : Sl w A n c (nats .u8 bs)) (h0 : -9223372036854775808 ≤ k) (h1 : k ≤ 9223372036854775807) (hk : k < 0 ∨ (n : Int) < k) :
    Calls Try.prog 46 #[.slice A n c, .int .i64 k] w fun e w' => e = .returned (varV (0, 0, 1)) ∧ w' = w := by
  have hle := hb.le
  have hmax := hb.max
  unfold maxLen at hmax
  clear hb
  unfold varV
  rcases hk with hk | hk
  · have hd : decide (k < 0) = true := decide_eq_true hk
    go_enter Try.func46, Try.ntmps46
    go_wp2
    go_ret3
    exact ⟨by first | rfl | simp, rfl⟩
  · have hd : decide (k < 0) = false := decide_eq_false (by omega)
    go_enter Try.func46, Try.ntmps46
    go_wp2
    go_ret3
    exact ⟨by first | rfl | simp, rfl⟩

set_option maxHeartbeats 800000 in
theorem var_r_out (A : Option Addr) (n c : Nat) (bs : List Nat) (k : Int) (w : World) (hb : Sl w A n c (nats .u8 bs)) (h0 : -9223372036854775808 ≤ k) (h1 : k ≤ 9223372036854775807) (hk : k < 0 ∨ (n : Int) < k) :
    Calls Try.prog 48 #[.slice A n c, .int .i64 k] w fun e w' => e = .returned (varV (0, 0, 1)) ∧ w' = w := by
  have hle := hb.le
  have hmax := hb.max
  unfold maxLen at hmax
  clear hb
  unfold varV
  rcases hk with hk | hk
  · have hd : decide (k < 0) = true := decide_eq_true hk
    go_enter Try.func48, Try.ntmps48
    go_wp2
    go_ret3
    exact ⟨by first | rfl | simp, rfl⟩
  · have hd : decide (k < 0) = false := decide_eq_false (by omega)
    go_enter Try.func48, Try.ntmps48
    go_wp2
    go_ret3
    exact ⟨by first | rfl | simp, rfl⟩

theorem varp (A : Option Addr) (n c : Nat) (bs : List Nat) (k : Int) (w : World) (hb : Sl w A n c (nats .u8 bs)) (hbs : ∀ x ∈ bs, x < 256) (h0 : -9223372036854775808 ≤ k) (h1 : k ≤ 9223372036854775807) :
    Calls Try.prog 46 #[.slice A n c, .int .i64 k] w fun e w' => e = .returned (varV (varS bs k)) ∧ w' = w := by
  have hl := hb.len
  rw [nats_length] at hl
  unfold varS
  by_cases h : k < 0 ∨ (bs.length : Int) < k
  · rw [if_pos h]; exact var_p_out A n c bs k w hb h0 h1 (by omega)
  · rw [if_neg h]
    obtain ⟨j, rfl⟩ : ∃ j : Nat, k = (j : Int) := ⟨k.toNat, by omega⟩
    exact var_p A n c bs j w hb hbs (by omega)
theorem varr (A : Option Addr) (n c : Nat) (bs : List Nat) (k : Int) (w : World) (hb : Sl w A n c (nats .u8 bs)) (hbs : ∀ x ∈ bs, x < 256) (h0 : -9223372036854775808 ≤ k) (h1 : k ≤ 9223372036854775807) :
    Calls Try.prog 48 #[.slice A n c, .int .i64 k] w fun e w' => e = .returned (varV (varS bs k)) ∧ w' = w := by
  have hl := hb.len
  rw [nats_length] at hl
  unfold varS
  by_cases h : k < 0 ∨ (bs.length : Int) < k
  · rw [if_pos h]; exact var_r_out A n c bs k w hb h0 h1 (by omega)
  · rw [if_neg h]
    obtain ⟨j, rfl⟩ : ∃ j : Nat, k = (j : Int) := ⟨k.toNat, by omega⟩
    exact var_r A n c bs j w hb hbs (by omega)
end Go.Proofs.Ytihclbiohljmlaa
