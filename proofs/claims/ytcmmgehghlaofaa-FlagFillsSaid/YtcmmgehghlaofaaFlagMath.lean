/- Bits in bytes: plain laws. No program in sight. -/
import Derived.Test.YtcmmgehghlaofaaPackMath
namespace Go.Proofs.Ytcmmgehghlaofaa.PackMath
set_option linter.unusedVariables false

theorem toNat_testBit (b : Bool) (k : Nat) : b.toNat.testBit k = (decide (k = 0) && b) := by
  cases k with
  | zero => cases b <;> rfl
  | succ k =>
    have h : b.toNat < 2 ^ (k + 1) := by
      have := Bool.toNat_le b
      have := Nat.two_pow_pos k
      rw [Nat.pow_succ]; omega
    rw [Nat.testBit_lt_two_pow h]
    simp

/-- One bit more. -/
theorem bytesOf_step (f : Nat → Bool) (n N : Nat) (h : n < 8 * N) :
    bytesOf (upTo f (n + 1)) N = (bytesOf (upTo f n) N).set (n / 8) ((bytesOf (upTo f n) N).getD (n / 8) 0 ||| (f n).toNat * 2 ^ (7 - n % 8)) := by
  refine List.ext_getElem (by simp [bytesOf]) fun j h1 h2 => ?_
  rw [bytesOf_getElem, List.getElem_set]
  rw [bytesOf_length] at h1
  split
  · rename_i hj
    subst hj
    rw [bytesOf_getD _ _ _ (by omega)]
    refine Nat.eq_of_testBit_eq fun i => ?_
    rw [Nat.testBit_or, numOf_testBit, numOf_testBit, testBit_mul_pow, toNat_testBit]
    by_cases hi : i < 8
    · simp only [upTo]
      by_cases hp : 8 * (n / 8) + (8 - 1 - i) < n
      · rw [decide_eq_true hi, decide_eq_true hp, decide_eq_true (show 8 * (n / 8) + (8 - 1 - i) < n + 1 from by omega), decide_eq_false (show ¬ i - (7 - n % 8) = 0 from by omega)]
        simp
      · by_cases hq : 8 * (n / 8) + (8 - 1 - i) = n
        · rw [decide_eq_true hi, decide_eq_false hp, decide_eq_true (show 8 * (n / 8) + (8 - 1 - i) < n + 1 from by omega), decide_eq_true (show i - (7 - n % 8) = 0 from by omega), decide_eq_true (show 7 - n % 8 ≤ i from by omega), hq]
          simp
        · rw [decide_eq_true hi, decide_eq_false hp, decide_eq_false (show ¬ 8 * (n / 8) + (8 - 1 - i) < n + 1 from by omega), decide_eq_false (show ¬ 7 - n % 8 ≤ i from by omega)]
          simp
    · simp only [decide_eq_false hi, Bool.false_and, Bool.false_or]
      rw [decide_eq_false (show ¬ i - (7 - n % 8) = 0 from by omega)]
      simp
  · rw [bytesOf_getElem]
    rename_i hj
    refine numOf_congr _ _ _ fun t ht => ?_
    simp only [upTo]
    by_cases hp : 8 * j + t < n
    · rw [decide_eq_true hp, decide_eq_true (show 8 * j + t < n + 1 from by omega)]
    · rw [decide_eq_false hp, decide_eq_false (show ¬ 8 * j + t < n + 1 from by omega)]

/-- The bits of a row of bools. -/
def bitL (l : List Bool) (i : Nat) : Bool := l.getD i false
def packS (l : List Bool) : List Nat := bytesOf (bitL l) (nbytes l.length)
def unpS (bs : List Nat) (count : Nat) : List Bool := (List.range count).map (bitAt bs)
theorem packS_length (l : List Bool) : (packS l).length = nbytes l.length := bytesOf_length _ _
theorem packS_lt (l : List Bool) : ∀ x ∈ packS l, x < 256 := bytesOf_lt _ _
theorem upTo_bitL (l : List Bool) : upTo (bitL l) l.length = bitL l := by
  funext i
  unfold upTo bitL
  by_cases h : i < l.length
  · rw [decide_eq_true h]; rfl
  · rw [decide_eq_false h, List.getD_eq_getElem?_getD, List.getElem?_eq_none (by omega)]; rfl
theorem upTo_zero (f : Nat → Bool) : upTo f 0 = fun _ => false := by
  funext i; simp [upTo]
theorem bytesOf_zero (N : Nat) : bytesOf (fun _ => false) N = List.replicate N 0 := by
  refine List.ext_getElem (by simp [bytesOf]) fun j h1 h2 => ?_
  rw [bytesOf_getElem, List.getElem_replicate]
  exact numOf_zero _ _ fun _ _ => rfl
theorem unpS_length (bs : List Nat) (count : Nat) : (unpS bs count).length = count := by simp [unpS]
theorem unpS_succ (bs : List Nat) (i : Nat) : unpS bs (i + 1) = unpS bs i ++ [bitAt bs i] := by simp [unpS, List.range_succ]
theorem unp_pack (l : List Bool) : unpS (packS l) l.length = l := by
  refine List.ext_getElem (by simp [unpS]) fun j h1 h2 => ?_
  simp only [unpS, List.getElem_map, List.getElem_range]
  unfold packS
  rw [bytesOf_bit _ _ _ (by unfold nbytes; omega)]
  simp [bitL, h2]
/-- The bits that only fill are nought. -/
theorem pack_fill (l : List Bool) (r : Nat) (hr : l.length % 8 = r) (h0 : 0 < r) : (packS l).getD (nbytes l.length - 1) 0 * 2 ^ r % 256 = 0 := by
  unfold packS
  rw [bytesOf_getD _ _ _ (by unfold nbytes; omega)]
  refine Nat.eq_of_testBit_eq fun i => ?_
  rw [show 256 = 2 ^ 8 from rfl, Nat.testBit_mod_two_pow, testBit_mul_pow, numOf_testBit, Nat.zero_testBit]
  by_cases hi : i < 8
  · by_cases hri : r ≤ i
    · have : bitL l (8 * (nbytes l.length - 1) + (8 - 1 - (i - r))) = false := by
        unfold bitL
        rw [List.getD_eq_getElem?_getD, List.getElem?_eq_none (by unfold nbytes; omega)]; rfl
      rw [this]
      simp
    · rw [decide_eq_false hri]; simp
  · rw [decide_eq_false hi]; simp
/-- One of them is set. -/
theorem fill_set (y r m : Nat) (hm : m + r < 8) : (y ||| 2 ^ m) * 2 ^ r % 256 ≠ 0 := by
  intro h
  have h1 : ((y ||| 2 ^ m) * 2 ^ r % 2 ^ 8).testBit (m + r) = true := by
    rw [Nat.testBit_mod_two_pow, testBit_mul_pow, Nat.testBit_or, decide_eq_true hm, decide_eq_true (show r ≤ m + r from by omega), show m + r - r = m from by omega, Nat.testBit_two_pow_self]
    simp
  rw [show (2 : Nat) ^ 8 = 256 from rfl, h, Nat.zero_testBit] at h1
  cases h1
/-- How many are true. -/
def cntS : List Bool → Nat
  | [] => 0
  | b :: l => b.toNat + cntS l
theorem cntS_append (l m : List Bool) : cntS (l ++ m) = cntS l + cntS m := by
  induction l with
  | nil => simp [cntS]
  | cons b l ih => simp only [List.cons_append, cntS, ih]; omega
theorem cntS_le (l : List Bool) : cntS l ≤ l.length := by
  induction l with
  | nil => exact Nat.le_refl _
  | cons b l ih => simp only [cntS, List.length_cons]; have := Bool.toNat_le b; omega
theorem cntS_next (l : List Bool) (i : Nat) (hi : i < l.length) : cntS (l.take (i + 1)) = cntS (l.take i) + (l.getD i false).toNat := by
  rw [List.take_succ_eq_append_getElem hi, cntS_append]
  simp [cntS, hi]
theorem cntS_not (l : List Bool) : cntS (l.map (! ·)) + cntS l = l.length := by
  induction l with
  | nil => rfl
  | cons b l ih => simp only [List.map_cons, cntS, List.length_cons]; cases b <;> simp <;> omega
theorem cntS_same (b : Bool) (n : Nat) : cntS (List.replicate n b) = if b then n else 0 := by
  induction n with
  | zero => cases b <;> rfl
  | succ n ih => rw [List.replicate_succ, cntS, ih]; cases b <;> simp; omega
end Go.Proofs.Ytcmmgehghlaofaa.PackMath
