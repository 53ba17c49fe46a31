/- Plain laws of numbers of few bits, side by side. No program in sight. -/
namespace Go.Proofs.Ytihclbiohljmlaa.PackMath
set_option linter.unusedVariables false

/-- k bits as a number, the first one the highest. -/
def numOf : Nat → (Nat → Bool) → Nat
  | 0, _ => 0
  | k + 1, f => 2 * numOf k f + (f k).toNat

theorem numOf_lt (k : Nat) (f : Nat → Bool) : numOf k f < 2 ^ k := by
  induction k with
  | zero => simp [numOf]
  | succ k ih => simp only [numOf, Nat.pow_succ]; have := Bool.toNat_le (f k); omega

theorem numOf_congr (k : Nat) (f g : Nat → Bool) (h : ∀ i, i < k → f i = g i) : numOf k f = numOf k g := by
  induction k with
  | zero => rfl
  | succ k ih => simp only [numOf]; rw [ih fun i hi => h i (by omega), h k (by omega)]

theorem numOf_add (k n : Nat) (f : Nat → Bool) : numOf (k + n) f = numOf k f * 2 ^ n + numOf n (fun t => f (k + t)) := by
  induction n with
  | zero => simp [numOf]
  | succ n ih =>
    rw [← Nat.add_assoc, numOf, ih]
    simp only [numOf, Nat.pow_succ]
    have e : numOf k f * (2 ^ n * 2) = 2 * (numOf k f * 2 ^ n) := by rw [Nat.mul_comm (2 ^ n) 2, Nat.mul_left_comm]
    rw [e]
    generalize numOf k f * 2 ^ n = x
    omega

theorem numOf_testBit (k : Nat) (f : Nat → Bool) (i : Nat) : (numOf k f).testBit i = (decide (i < k) && f (k - 1 - i)) := by
  induction k generalizing i with
  | zero => simp [numOf]
  | succ k ih =>
    simp only [numOf]
    cases i with
    | zero =>
      rw [Nat.testBit_zero, show (2 * numOf k f + (f k).toNat) % 2 = (f k).toNat % 2 from by omega]
      cases h : f k <;> simp [h]
    | succ i =>
      rw [Nat.testBit_succ]
      rw [show (2 * numOf k f + (f k).toNat) / 2 = numOf k f from by have := Bool.toNat_le (f k); omega]
      rw [ih i]
      by_cases h : i < k
      · rw [show k + 1 - 1 - (i + 1) = k - 1 - i from by omega, decide_eq_true h, decide_eq_true (show i + 1 < k + 1 from by omega)]
      · rw [decide_eq_false h, decide_eq_false (show ¬ i + 1 < k + 1 from by omega)]; simp

/-- A number out of its own bits, cut to a width. -/
theorem numOf_bits (k v : Nat) : numOf k (fun i => v.testBit (k - 1 - i)) = v % 2 ^ k := by
  refine Nat.eq_of_testBit_eq fun i => ?_
  rw [numOf_testBit, Nat.testBit_mod_two_pow]
  by_cases h : i < k
  · simp [h, show k - 1 - (k - 1 - i) = i from by omega]
  · simp [h]

/-- n bits out of a number, from 's' bits over its end. -/
theorem numOf_slice (n s v : Nat) (f : Nat → Bool) (h : ∀ i, i < n → f i = v.testBit (s + (n - 1 - i))) : numOf n f = v / 2 ^ s % 2 ^ n := by
  rw [← numOf_bits]
  refine numOf_congr _ _ _ fun i hi => ?_
  rw [h i hi, Nat.testBit_div_two_pow]
  congr 1
  omega

/-- The bit at a place of a row of bytes. -/
def bitAt (bs : List Nat) (i : Nat) : Bool := (bs.getD (i / 8) 0).testBit (7 - i % 8)

/-- The bits of numbers side by side. -/
def bitOf (l : List Nat) (width i : Nat) : Bool := decide (i < l.length * width) && (l.getD (i / width) 0).testBit (width - 1 - i % width)

def nbytes (n : Nat) : Nat := (n + 7) / 8

/-- The bytes of a row of bits. -/
def bytesOf (f : Nat → Bool) (n : Nat) : List Nat := (List.range n).map fun j => numOf 8 fun t => f (8 * j + t)

def putSpec (l : List Nat) (width : Nat) : List Nat := bytesOf (bitOf l width) (nbytes (l.length * width))

def getSpec (bs : List Nat) (base count width : Nat) : List Nat := (List.range count).map fun i => numOf width fun k => bitAt bs (base + i * width + k)

theorem bytesOf_length (f : Nat → Bool) (n : Nat) : (bytesOf f n).length = n := by simp [bytesOf]
theorem bytesOf_getD (f : Nat → Bool) (n j : Nat) (h : j < n) : (bytesOf f n).getD j 0 = numOf 8 fun t => f (8 * j + t) := by
  simp [bytesOf, h]
theorem bytesOf_lt (f : Nat → Bool) (n : Nat) : ∀ x ∈ bytesOf f n, x < 256 := by
  intro x hx
  simp only [bytesOf, List.mem_map] at hx
  obtain ⟨j, _, rfl⟩ := hx
  exact numOf_lt 8 _

theorem bytesOf_bit (f : Nat → Bool) (n i : Nat) (h : i < 8 * n) : bitAt (bytesOf f n) i = f i := by
  unfold bitAt
  rw [bytesOf_getD f n _ (by omega), numOf_testBit]
  simp only [show 7 - i % 8 < 8 from by omega, decide_true, Bool.true_and]
  congr 1
  omega

theorem numOf_zero (k : Nat) (f : Nat → Bool) (h : ∀ i, i < k → f i = false) : numOf k f = 0 := by
  induction k with
  | zero => rfl
  | succ k ih => simp only [numOf]; rw [ih fun i hi => h i (by omega), h k (by omega)]; rfl

/-- One row of bits, told up to n: later ones are nought. -/
def upTo (f : Nat → Bool) (n i : Nat) : Bool := decide (i < n) && f i

/-- A byte of noughts more. -/
theorem bytesOf_nought (f : Nat → Bool) (n K : Nat) (h : n ≤ 8 * K) : bytesOf (upTo f n) (K + 1) = bytesOf (upTo f n) K ++ [0] := by
  rw [bytesOf, List.range_succ, List.map_append, bytesOf]
  congr 1
  simp only [List.map_cons, List.map_nil, List.cons.injEq, and_true]
  exact numOf_zero _ _ fun i _ => by simp only [upTo]; rw [decide_eq_false (by omega)]; rfl

theorem getD_eq (l : List Nat) (j : Nat) (h : j < l.length) : l.getD j 0 = l[j] := by simp [h]

theorem bytesOf_getElem (f : Nat → Bool) (n j : Nat) (h : j < (bytesOf f n).length) : (bytesOf f n)[j] = numOf 8 fun t => f (8 * j + t) := by
  simp [bytesOf]

theorem testBit_mul_pow (p s i : Nat) : (p * 2 ^ s).testBit i = (decide (s ≤ i) && p.testBit (i - s)) := by
  rw [Nat.mul_comm, Nat.testBit_two_pow_mul]

/-- m bits more in the last byte. -/
theorem bytesOf_more (f : Nat → Bool) (n m K : Nat) (hK : 8 * K ≤ n) (h : n + m ≤ 8 * (K + 1)) :
    bytesOf (upTo f (n + m)) (K + 1) = (bytesOf (upTo f n) (K + 1)).set K ((bytesOf (upTo f n) (K + 1)).getD K 0 ||| numOf m (fun t => f (n + t)) * 2 ^ (8 * (K + 1) - n - m)) := by
  refine List.ext_getElem (by simp [bytesOf]) fun j h1 h2 => ?_
  rw [bytesOf_getElem, List.getElem_set]
  rw [bytesOf_length] at h1
  split
  · rename_i hj
    subst hj
    rw [bytesOf_getD _ _ _ (by omega)]
    refine Nat.eq_of_testBit_eq fun i => ?_
    rw [Nat.testBit_or, numOf_testBit, numOf_testBit, testBit_mul_pow, numOf_testBit]
    by_cases hi : i < 8
    · by_cases hp : 8 * K + (8 - 1 - i) < n
      · simp only [upTo]
        rw [decide_eq_true hi, decide_eq_true hp, decide_eq_true (show 8 * K + (8 - 1 - i) < n + m from by omega), decide_eq_false (show ¬ i - (8 * (K + 1) - n - m) < m from by omega)]
        simp
      · by_cases hq : 8 * K + (8 - 1 - i) < n + m
        · simp only [upTo]
          rw [decide_eq_true hi, decide_eq_false hp, decide_eq_true hq, decide_eq_true (show 8 * (K + 1) - n - m ≤ i from by omega), decide_eq_true (show i - (8 * (K + 1) - n - m) < m from by omega),
            show n + (m - 1 - (i - (8 * (K + 1) - n - m))) = 8 * K + (8 - 1 - i) from by omega]
          simp
        · simp only [upTo]
          rw [decide_eq_true hi, decide_eq_false hp, decide_eq_false hq, decide_eq_false (show ¬ 8 * (K + 1) - n - m ≤ i from by omega)]
          simp
    · simp only [decide_eq_false hi, Bool.false_and, Bool.false_or]
      rw [decide_eq_false (show ¬ i - (8 * (K + 1) - n - m) < m from by omega)]
      simp
  · rw [bytesOf_getElem]
    refine numOf_congr _ _ _ fun t ht => ?_
    simp only [upTo]
    rw [decide_eq_true (show 8 * j + t < n from by omega), decide_eq_true (show 8 * j + t < n + m from by omega)]

theorem upTo_all (l : List Nat) (width : Nat) : upTo (bitOf l width) (l.length * width) = bitOf l width := by
  funext i
  simp [upTo, bitOf]

/-- The bits that one turn of the packing takes out of a number. -/
theorem part_eq (l : List Nat) (width i left m : Nat) (hi : i < l.length) (hl : left ≤ width) (hm : m ≤ left) (h0 : 0 < width) :
    numOf m (fun t => bitOf l width (i * width + (width - left) + t)) = l.getD i 0 / 2 ^ (left - m) % 2 ^ m := by
  refine numOf_slice _ _ _ _ fun t ht => ?_
  have hlt : i * width + (width - left) + t < l.length * width := by
    have : (i + 1) * width ≤ l.length * width := Nat.mul_le_mul_right _ hi
    rw [Nat.add_mul, Nat.one_mul] at this
    omega
  have hd : (i * width + (width - left) + t) / width = i := by
    rw [show i * width + (width - left) + t = width * i + (width - left + t) from by rw [Nat.mul_comm]; omega, Nat.mul_add_div h0, Nat.div_eq_of_lt (by omega), Nat.add_zero]
  have hr : (i * width + (width - left) + t) % width = width - left + t := by
    rw [show i * width + (width - left) + t = width * i + (width - left + t) from by rw [Nat.mul_comm]; omega, Nat.mul_add_mod, Nat.mod_eq_of_lt (by omega)]
  simp only [bitOf]
  rw [decide_eq_true hlt, hd, hr, Bool.true_and]
  congr 1
  omega

/-- The bits that one turn of the unpacking takes out of a byte. -/
theorem taken_eq (bs : List Nat) (p m : Nat) (hm : p % 8 + m ≤ 8) : numOf m (fun t => bitAt bs (p + t)) = bs.getD (p / 8) 0 / 2 ^ (8 - p % 8 - m) % 2 ^ m := by
  refine numOf_slice _ _ _ _ fun t ht => ?_
  unfold bitAt
  rw [show (p + t) / 8 = p / 8 from by omega]
  congr 1
  omega

def roomOf (N : Nat) : Nat := 8 * nbytes N - N
def pkd (ls : List Nat) (width N : Nat) : List Nat := bytesOf (upTo (bitOf ls width) N) (nbytes N)


theorem numOf_more (k q : Nat) (f : Nat → Bool) : numOf (k + q) f = numOf k f * 2 ^ q ||| numOf q (fun t => f (k + t)) := by
  rw [numOf_add, Nat.mul_comm, ← Nat.two_pow_add_eq_or_of_lt (numOf_lt q _)]

/-- The numbers so far: i of them, the next one of m bits, then noughts. -/
def gotten (bs : List Nat) (base count width i m : Nat) : List Nat :=
  (getSpec bs base i width ++ [numOf m fun k => bitAt bs (base + i * width + k)]) ++ List.replicate (count - i - 1) 0

theorem getSpec_length (bs : List Nat) (base count width : Nat) : (getSpec bs base count width).length = count := by simp [getSpec]

theorem getSpec_succ (bs : List Nat) (base i width : Nat) : getSpec bs base (i + 1) width = getSpec bs base i width ++ [numOf width fun k => bitAt bs (base + i * width + k)] := by
  unfold getSpec
  rw [List.range_succ, List.map_append]
  rfl

theorem gotten_getElem (bs : List Nat) (base count width i m : Nat) (hi : i < count) : (gotten bs base count width i m)[i]? = some (numOf m fun k => bitAt bs (base + i * width + k)) := by
  unfold gotten
  rw [List.getElem?_append_left (by simp [getSpec_length]), List.getElem?_append_right (by simp [getSpec_length]), getSpec_length]
  simp

theorem gotten_set (bs : List Nat) (base count width i m m' : Nat) : (gotten bs base count width i m).set i (numOf m' fun k => bitAt bs (base + i * width + k)) = gotten bs base count width i m' := by
  unfold gotten
  rw [List.set_append_left _ _ (by simp [getSpec_length]), List.set_append_right _ _ (by simp [getSpec_length]), getSpec_length]
  simp

theorem bit_at (ls : List Nat) (width i m : Nat) (hi : i < ls.length) (hm : m < width) : bitOf ls width (i * width + m) = (ls.getD i 0).testBit (width - 1 - m) := by
  have hlt : i * width + m < ls.length * width := by
    have : (i + 1) * width ≤ ls.length * width := Nat.mul_le_mul_right _ hi
    rw [Nat.add_mul, Nat.one_mul] at this
    omega
  unfold bitOf
  rw [decide_eq_true hlt, Nat.mul_comm i width, Nat.mul_add_div (by omega), Nat.div_eq_of_lt hm, Nat.mul_add_mod, Nat.mod_eq_of_lt hm]
  simp

theorem bitAt_val (bs : List Nat) (p : Nat) : bs.getD (p / 8) 0 / 2 ^ (7 - p % 8) % 2 = (bitAt bs p).toNat := by
  unfold bitAt
  rw [Nat.testBit_eq_decide_div_mod_eq]
  generalize bs.getD (p / 8) 0 / 2 ^ (7 - p % 8) = z
  by_cases h : z % 2 = 1
  · rw [h]; rfl
  · rw [decide_eq_false h]; simp; omega

end Go.Proofs.Ytihclbiohljmlaa.PackMath
