/- nums.PutVar and the reference's own: what they put. -/
import Derived.Test.YtihclbiohljmlaaNumsVar
import Derived.Test.YtihclbiohljmlaaClone
namespace Go.Proofs.Ytihclbiohljmlaa
open Go.RowKit
open PackMath
set_option linter.unusedVariables false

/-- A number's bytes, seven bits each. -/
def pv : Nat → Nat → List Nat
  | 0, v => [v]
  | f + 1, v => if v < 128 then [v] else (v % 128 + 128) :: pv f (v / 128)
def varP (v : Nat) : List Nat := pv 9 v

theorem pv_small (f v : Nat) (h : v < 128) : pv f v = [v] := by cases f <;> simp [pv, h]
theorem pv_more (f v : Nat) (h : ¬ v < 128) : pv (f + 1) v = (v % 128 + 128) :: pv f (v / 128) := by rw [pv, if_neg h]
theorem pv_length (f v : Nat) : 1 ≤ (pv f v).length ∧ (pv f v).length ≤ f + 1 := by
  induction f generalizing v with
  | zero => exact ⟨Nat.le_refl _, Nat.le_refl _⟩
  | succ f ih =>
    unfold pv
    have := ih (v / 128)
    split
    · simp
    · simp only [List.length_cons]; omega
theorem half7 (i x : Nat) (hi : i < 9) (h : x < 2 ^ (64 - 7 * i)) : x / 128 < 2 ^ (64 - 7 * (i + 1)) := by
  rw [show 64 - 7 * i = (64 - 7 * (i + 1)) + 7 from by omega, Nat.pow_add] at h
  exact Nat.div_lt_of_lt_mul (by rw [Nat.mul_comm]; exact h)
theorem pv_byte (f i v : Nat) (hf : f + i = 9) (h : v < 2 ^ (64 - 7 * i)) : ∀ x ∈ pv f v, x < 256 := by
  induction f generalizing v i with
  | zero =>
    have : i = 9 := by omega
    subst this
    intro x hx
    simp only [pv, List.mem_singleton] at hx
    have : (2 : Nat) ^ (64 - 7 * 9) = 2 := rfl
    omega
  | succ f ih =>
    unfold pv
    intro x hx
    split at hx
    · simp only [List.mem_singleton] at hx; omega
    · simp only [List.mem_cons] at hx
      rcases hx with rfl | hx
      · omega
      · exact ih (i + 1) (v / 128) (by omega) (half7 i v (by omega) h) x hx
theorem pv_read (f i v acc : Nat) (rest : List Nat) (hf : f + i = 9) (h : v < 2 ^ (64 - 7 * i)) : varR (pv f v ++ rest) i acc = (acc + v * 2 ^ (7 * i), i + (pv f v).length, 0) := by
  induction f generalizing v i acc with
  | zero =>
    have : i = 9 := by omega
    subst this
    have e : (2 : Nat) ^ (64 - 7 * 9) = 2 := rfl
    rw [e] at h
    show varR (v :: rest) 9 acc = _
    rw [varR_last _ _ _ _ (by omega) (by omega), Nat.mod_eq_of_lt (by omega)]
    rfl
  | succ f ih =>
    by_cases hv : v < 128
    · rw [pv_small _ _ hv]
      show varR (v :: rest) i acc = _
      rw [varR_last _ _ _ _ (by omega) hv, Nat.mod_eq_of_lt hv]
      rfl
    · rw [pv_more _ _ hv]
      show varR ((v % 128 + 128) :: (pv f (v / 128) ++ rest)) i acc = _
      rw [varR_more _ _ _ _ (by omega) (by omega), ih (i + 1) (v / 128) _ (by omega) (half7 i v (by omega) h)]
      have e1 : (v % 128 + 128) % 128 = v % 128 := by omega
      have e2 : 2 ^ (7 * (i + 1)) = 128 * 2 ^ (7 * i) := by rw [Nat.mul_add, Nat.pow_add, Nat.mul_comm]
      have e3 : v * 2 ^ (7 * i) = v % 128 * 2 ^ (7 * i) + v / 128 * (128 * 2 ^ (7 * i)) := by
        rw [← Nat.mul_assoc, ← Nat.add_mul]
        congr 1
        omega
      rw [e1, e2, e3]
      refine Prod.ext (by simp only; omega) (Prod.ext ?_ rfl)
      simp only [List.length_cons]
      omega
theorem varP_byte (v : Nat) (h : v < 18446744073709551616) : ∀ x ∈ varP v, x < 256 := pv_byte 9 0 v rfl h
theorem varP_length (v : Nat) : 1 ≤ (varP v).length ∧ (varP v).length ≤ 10 := pv_length 9 v
theorem varP_read (v : Nat) (rest : List Nat) (h : v < 18446744073709551616) : varR (varP v ++ rest) 0 0 = (v, (varP v).length, 0) := by
  unfold varP
  rw [pv_read 9 0 v 0 rest rfl h]
  simp

theorem or_128 (x : Nat) : x % 128 ||| 128 = x % 128 + 128 := by
  have := Nat.two_pow_add_eq_or_of_lt (i := 7) (b := x % 128) (Nat.mod_lt _ (by decide)) 1
  rw [Nat.or_comm]
  have e : 2 ^ 7 * 1 = 128 := rfl
  rw [e] at this
  omega
set_option maxRecDepth 20000 in
theorem more_p (x : Nat) : bits .or .u8 ((x : Int) % 256) 128 = ((x % 128 + 128 : Nat) : Int) := by
  have e : (x : Int) % 256 = ((x % 256 : Nat) : Int) := by simp
  rw [e, show (128 : Int) = ((128 : Nat) : Int) from rfl, bits_or_u8 _ _ (Nat.mod_lt _ (by decide)) (by decide)]
  congr 1
  have : ∀ y : Fin 256, y.val ||| 128 = y.val % 128 + 128 := by decide
  have h := this ⟨x % 256, Nat.mod_lt _ (by decide)⟩
  simp only at h
  rw [h]
  omega
theorem more_r (x : Nat) (hx : x < 18446744073709551616) : bits .or .u64 (bits .and .u64 (x : Int) 127) 128 % 256 = ((x % 128 + 128 : Nat) : Int) := by
  rw [show (127 : Int) = ((127 : Nat) : Int) from rfl, bits_and_u64 _ _ hx (by decide), show (127 : Nat) = 2 ^ 7 - 1 from rfl, Nat.and_two_pow_sub_one_eq_mod, show (2 : Nat) ^ 7 = 128 from rfl, show (128 : Int) = ((128 : Nat) : Int) from rfl, bits_or_u64 _ _ (by omega) (by decide), or_128]
  omega


/-- A loop's state: the bytes so far, the rest of the number. -/
structure PVar (w : World) (base n : Nat) (bs R : List Nat) (x : Nat) (pre : List Nat) (ov : Value) (wr : World) : Prop where
  few : pre.length ≤ 9
  small : x < 2 ^ (64 - 7 * pre.length)
  whole : pre ++ pv (9 - pre.length) x = R
  own : wr.ownsRow base 5 1 ov (n + pre.length) (nats .u8 (bs ++ pre))
  bel : Below base w wr

theorem PVar.more {w wr w' : World} {base n : Nat} {bs R : List Nat} {x : Nat} {pre : List Nat} {ov v' : Value} (h : PVar w base n bs R x pre ov wr) (hx : ¬ x < 128) (z : Nat) (hz : x % 128 + 128 = z)
    (h' : w'.ownsRow base 5 1 v' (n + pre.length + 1) (nats .u8 (bs ++ pre) ++ [.int .u8 (z : Int)])) (hb : Below base wr w') : PVar w base n bs R (x / 128) (pre ++ [z]) v' w' := by
  have hk : pre.length < 9 := by
    refine Classical.byContradiction fun hc => ?_
    have h9 : pre.length = 9 := by have := h.few; omega
    have := h.small
    rw [h9, show (2 : Nat) ^ (64 - 7 * 9) = 2 from rfl] at this
    omega
  refine ⟨by simp; omega, ?_, ?_, ?_, h.bel.trans hb⟩
  · rw [List.length_append]; exact half7 _ _ hk h.small
  · have h2 := h.whole
    rw [show 9 - pre.length = (9 - (pre.length + 1)) + 1 from by omega, pv_more _ _ hx, hz] at h2
    rw [List.append_assoc, List.length_append]
    exact h2
  · rw [show ([Value.int .u8 (z : Int)] : List Value) = nats .u8 [z] from rfl, ← nats_append, List.append_assoc] at h'
    rw [List.length_append]
    exact h'
theorem PVar.last {w wr w' : World} {base n : Nat} {bs R : List Nat} {x : Nat} {pre : List Nat} {ov v' : Value} (h : PVar w base n bs R x pre ov wr) (hx : x < 128)
    (h' : w'.ownsRow base 5 1 v' (n + pre.length + 1) (nats .u8 (bs ++ pre) ++ [.int .u8 (x : Int)])) : w'.ownsRow base 5 1 v' (n + R.length) (nats .u8 (bs ++ R)) := by
  have h2 := h.whole
  rw [pv_small _ _ hx] at h2
  rw [← h2, List.length_append, ← List.append_assoc]
  rw [show ([Value.int .u8 (x : Int)] : List Value) = nats .u8 [x] from rfl, ← nats_append] at h'
  exact h'

set_option maxHeartbeats 1600000 in
set_option maxRecDepth 4000 in
theorem putvar_p (A : Option Addr) (n c : Nat) (bs : List Nat) (v : Nat) (w : World) (hb : Sl w A n c (nats .u8 bs)) (hv : v < 18446744073709551616) (hsz : n ≤ 100000000000000) :
    Calls Try.prog 50 #[.slice A n c, .int .u64 (v : Int)] w fun e w' => ∃ A' m, e = .returned (.slice A' m m) ∧ Sl w' A' m m (nats .u8 (bs ++ varP v)) ∧ Below w.heap.size w w' := by
  obtain ⟨i0, hi, hz0, hz1, hz2⟩ := info_parts Try.info5
  go_enter Try.func50, Try.ntmps50
  go_wp2_with (go_at_call 44; refine (clone_u8 _ _ _ _ _ hb (by omega)).mono ?_; rintro e w1 ⟨ov, rfl, hown, hb1⟩)
  go_loopw [1, 5] (fun vv ov wr => ∃ (x : Nat) (pre : List Nat), vv = .int .u64 (x : Int) ∧ PVar w w.heap.size n bs (varP v) x pre ov wr) (fun vv _ _ => (intOf vv).toNat)
  case atStart => exact ⟨v, [], rfl, by simp, by simpa using hv, rfl, by simpa using hown, hb1⟩
  case round =>
    obtain ⟨x, pre, rfl, hP⟩ := hrel
    have hfew := hP.few
    have hown1 := hP.own
    have hbel := hP.bel
    have hx64 : x < 18446744073709551616 := Nat.lt_of_lt_of_le hP.small (Nat.pow_le_pow_right (n := 2) (j := 64) (by decide) (by omega))
    have HP := Lib.hid hP
    have hBs := hbel.size
    clear hP
    by_cases hx : x < 128
    · have e : (x : Int) % 256 = (x : Int) := by omega
      go_wp2_with (at_builtin; refine wpList_append_sl rfl _ _ 22 rfl w.heap.size 5 i0 (.int .u8 0) 1 Try.underlying22 hi hz0 hz1 hz2 rfl _ _ _ rfl (hown1.alloc _) _ 1 1 _ rfl (Sl.one_new wr (.int .u8 (x : Int)) 5 rfl) ?c1 ?c2 ?c3 ?_)
      case c1 => unfold maxLen; omega
      case c2 => omega
      case c3 => simp; omega
      intro v' w' h1 h2 _ _
      have h3 := HP.out.last hx h1
      obtain ⟨A', c', hv', hs⟩ := Sl.of_own h3 (nats_one _ _)
      subst hv'
      have Hb2 := Lib.hid ((hbel.alloc hbel.size _).trans h2)
      clear e h1 h3
      go_wp2_with (go_at_call 43; refine (clip_u8 _ _ _ _ _ hs).mono ?_; rintro e w1 ⟨rfl, hs2, rfl⟩)
      go_ret
      exact ⟨_, _, rfl, hs2, Hb2.out⟩
    · generalize hz : x % 128 + 128 = z
      have e := more_p x
      rw [hz] at e
      have Hz := Lib.hid hz
      clear hz
      go_wp2_with (at_builtin; refine wpList_append_sl rfl _ _ 22 rfl w.heap.size 5 i0 (.int .u8 0) 1 Try.underlying22 hi hz0 hz1 hz2 rfl _ _ _ rfl (hown1.alloc _) _ 1 1 _ rfl (Sl.one_new wr (.int .u8 (z : Int)) 5 rfl) ?c1 ?c2 ?c3 ?_)
      case c1 => unfold maxLen; omega
      case c2 => omega
      case c3 => simp; omega
      intro v' w' h1 h2 _ _
      have Hb2 := Lib.hid ((Below.refl _ _).alloc hBs _ |>.trans h2)
      have HP2 := Lib.hid (HP.out.more hx z Hz.out h1 Hb2.out)
      clear h1 h2
      go_wp2_with fail
      exact ⟨⟨x / 128, _, by first | rfl | simp, HP2.out⟩, by simp only [intOf]; omega⟩

set_option maxHeartbeats 1600000 in
set_option maxRecDepth 4000 in
theorem putvar_r (base n : Nat) (bs : List Nat) (v : Nat) (ov : Value) (w : World) (hown : w.ownsRow base 5 1 ov n (nats .u8 bs)) (hB : base ≤ w.heap.size) (hv : v < 18446744073709551616) (hsz : n ≤ 100000000000000) :
    Calls Try.prog 52 #[ov, .int .u64 (v : Int)] w fun e w' => ∃ v', e = .returned v' ∧ w'.ownsRow base 5 1 v' (n + (varP v).length) (nats .u8 (bs ++ varP v)) ∧ Below base w w' := by
  obtain ⟨i0, hi, hz0, hz1, hz2⟩ := info_parts Try.info5
  go_enter Try.func52, Try.ntmps52
  go_wp2_with fail
  go_loopw [0, 1] (fun ov vv wr => ∃ (x : Nat) (pre : List Nat), vv = .int .u64 (x : Int) ∧ PVar w base n bs (varP v) x pre ov wr) (fun _ vv _ => (intOf vv).toNat)
  case atStart => exact ⟨v, [], rfl, by simp, by simpa using hv, rfl, by simpa using hown, Below.refl _ _⟩
  case round =>
    obtain ⟨x, pre, rfl, hP⟩ := hrel
    have hfew := hP.few
    have hown1 := hP.own
    have hbel := hP.bel
    have hx64 : x < 18446744073709551616 := Nat.lt_of_lt_of_le hP.small (Nat.pow_le_pow_right (n := 2) (j := 64) (by decide) (by omega))
    have HP := Lib.hid hP
    have hBs : base ≤ wr.heap.size := Nat.le_trans hB hbel.size
    clear hP
    by_cases hx : x < 128
    · have e : (x : Int) % 256 = (x : Int) := by omega
      go_wp2_with (at_builtin; refine wpList_append_sl rfl _ _ 22 rfl base 5 i0 (.int .u8 0) 1 Try.underlying22 hi hz0 hz1 hz2 rfl _ _ _ rfl (hown1.alloc _) _ 1 1 _ rfl (Sl.one_new wr (.int .u8 (x : Int)) 5 rfl) ?c1 ?c2 ?c3 ?_)
      case c1 => unfold maxLen; omega
      case c2 => omega
      case c3 => simp; omega
      intro v' w' h1 h2 _ _
      have H3 := Lib.hid (HP.out.last hx h1)
      have Hb2 := Lib.hid ((hbel.alloc hBs _).trans h2)
      clear e h1
      go_wp2_with fail
      go_ret
      exact ⟨_, rfl, H3.out, Hb2.out⟩
    · generalize hz : x % 128 + 128 = z
      have e := more_r x hx64
      rw [hz] at e
      have Hz := Lib.hid hz
      clear hz
      go_wp2_with (at_builtin; refine wpList_append_sl rfl _ _ 22 rfl base 5 i0 (.int .u8 0) 1 Try.underlying22 hi hz0 hz1 hz2 rfl _ _ _ rfl (hown1.alloc _) _ 1 1 _ rfl (Sl.one_new wr (.int .u8 (z : Int)) 5 rfl) ?c1 ?c2 ?c3 ?_)
      case c1 => unfold maxLen; omega
      case c2 => omega
      case c3 => simp; omega
      intro v' w' h1 h2 _ _
      have Hb2 := Lib.hid ((Below.refl _ _).alloc hBs _ |>.trans h2)
      have HP2 := Lib.hid (HP.out.more hx z Hz.out h1 Hb2.out)
      clear h1 h2
      go_wp2_with fail
      exact ⟨⟨x / 128, _, by first | rfl | simp, HP2.out⟩, by simp only [intOf]; omega⟩
end Go.Proofs.Ytihclbiohljmlaa
