/- nums.PutBig, Big and the references' own: what they answer. (Printed by gen/numsbig.py.) -/
import Derived.Test.YtehcbgnoiogncaaNumsPut
namespace Go.Proofs.Ytehcbgnoiogncaa
open Go.RowKit
open PackMath
set_option linter.unusedVariables false

/-- A number's n lowest bytes, the highest first. -/
def bigB : Nat → Nat → List Nat
  | 0, _ => []
  | n + 1, u => (u / 2 ^ (8 * n) % 256) :: bigB n u
def bigP (u : Nat) (n : Int) : List Nat := if 1 ≤ n ∧ n ≤ 8 then bigB n.toNat u else []
/-- Bytes as a number, the highest first. -/
def bigV : List Nat → Nat → Nat
  | [], acc => acc
  | c :: l, acc => bigV l (acc * 256 + c)
def bigOut (len : Nat) (at_ n : Int) : Prop := n < 1 ∨ 8 < n ∨ at_ < 0 ∨ (len : Int) < at_ ∨ (len : Int) - at_ < n
instance (len : Nat) (at_ n : Int) : Decidable (bigOut len at_ n) := by unfold bigOut; infer_instance
def bigS (bs : List Nat) (at_ n : Int) : Nat × Bool := if bigOut bs.length at_ n then (0, false) else (bigV ((bs.drop at_.toNat).take n.toNat) 0, true)
def bigVal (r : Nat × Bool) : Value := .tuple #[.int .u64 (r.1 : Int), .bool r.2]

theorem bigB_length (n u : Nat) : (bigB n u).length = n := by
  induction n with
  | zero => rfl
  | succ n ih => simp [bigB, ih]
theorem bigB_byte (n u : Nat) : ∀ x ∈ bigB n u, x < 256 := by
  induction n with
  | zero => intro x hx; cases hx
  | succ n ih =>
    intro x hx
    simp only [bigB, List.mem_cons] at hx
    rcases hx with rfl | hx
    · exact Nat.mod_lt _ (by decide)
    · exact ih x hx
theorem bigV_bigB (n u acc : Nat) : bigV (bigB n u) acc = acc * 2 ^ (8 * n) + u % 2 ^ (8 * n) := by
  induction n generalizing acc with
  | zero => simp [bigB, bigV, Nat.mod_one]
  | succ n ih =>
    show bigV (bigB n u) (acc * 256 + u / 2 ^ (8 * n) % 256) = _
    rw [ih]
    have e : 2 ^ (8 * (n + 1)) = 2 ^ (8 * n) * 256 := by rw [Nat.mul_add, Nat.pow_add]
    rw [e, Nat.mod_mul, Nat.add_mul, Nat.mul_assoc, Nat.mul_comm 256, Nat.mul_comm (u / 2 ^ (8 * n) % 256)]
    omega
theorem bigP_length (u : Nat) (n : Int) : (bigP u n).length ≤ 8 := by
  unfold bigP
  split
  · rw [bigB_length]; omega
  · simp
theorem bigP_byte (u : Nat) (n : Int) : ∀ x ∈ bigP u n, x < 256 := by
  unfold bigP
  split
  · exact bigB_byte _ _
  · intro x hx; cases hx

theorem nats_byte (xs : List Nat) (u c : Nat) : nats .u8 xs ++ [.int .u8 ((u : Int) / (c : Int) % 256)] = nats .u8 (xs ++ [u / c % 256]) := by
  rw [nats_append]
  congr 1
theorem nats_byte0 (xs : List Nat) (u : Nat) : nats .u8 xs ++ [.int .u8 ((u : Int) % 256)] = nats .u8 (xs ++ [u % 256]) := by
  rw [nats_append]
  congr 1
theorem nats_byte' (bs xs : List Nat) (u c : Nat) : nats .u8 (bs ++ xs) ++ [.int .u8 ((u : Int) / (c : Int) % 256)] = nats .u8 (bs ++ (xs ++ [u / c % 256])) := by
  rw [nats_byte, List.append_assoc]
theorem nats_byte0' (bs xs : List Nat) (u : Nat) : nats .u8 (bs ++ xs) ++ [.int .u8 ((u : Int) % 256)] = nats .u8 (bs ++ (xs ++ [u % 256])) := by
  rw [nats_byte0, List.append_assoc]
theorem nats_byte7 (xs : List Nat) (u : Nat) (hu : u < 18446744073709551616) : nats .u8 xs ++ [.int .u8 ((u : Int) / 72057594037927936)] = nats .u8 (xs ++ [u / 72057594037927936 % 256]) := by
  rw [nats_append, show u / 72057594037927936 % 256 = u / 72057594037927936 from by omega]
  congr 1
theorem own_as {w : World} {b : Nat} {e : TypeId} {s n m : Nat} {v : Value} {xs ys : List Value} (h : w.ownsRow b e s v n xs) (hx : xs = ys) (hn : n = m) : w.ownsRow b e s v m ys := by subst hx hn; exact h

structure RBig (w : World) (base n : Nat) (bs : List Nat) (u m : Nat) (R pre : List Nat) (k : Nat) (ov : Value) (wr : World) : Prop where
  len : pre.length + m = k
  whole : pre ++ bigB m u = R
  own : wr.ownsRow base 5 1 ov (n + pre.length) (nats .u8 (bs ++ pre))
  bel : Below base w wr

theorem RBig.step {w wr w' : World} {base n : Nat} {bs R pre : List Nat} {u m k : Nat} {ov v' : Value} (h : RBig w base n bs u (m + 1) R pre k ov wr)
    (h' : w'.ownsRow base 5 1 v' (n + pre.length + 1) (nats .u8 (bs ++ pre) ++ [.int .u8 ((u : Int) / 2 ^ (8 * m) % 256)])) (hb : Below base wr w') : RBig w base n bs u m R (pre ++ [u / 2 ^ (8 * m) % 256]) k v' w' := by
  refine ⟨by have := h.len; simp; omega, ?_, ?_, h.bel.trans hb⟩
  · rw [List.append_assoc]; exact h.whole
  · have e : ((u : Int) / 2 ^ (8 * m) % 256) = ((u / 2 ^ (8 * m) % 256 : Nat) : Int) := by simp
    rw [e, show ([Value.int .u8 ((u / 2 ^ (8 * m) % 256 : Nat) : Int)] : List Value) = nats .u8 [u / 2 ^ (8 * m) % 256] from rfl, ← nats_append, List.append_assoc] at h'
    rw [List.length_append]
    exact h'

set_option maxHeartbeats 1600000 in
theorem putbig_r (base n : Nat) (bs : List Nat) (u : Nat) (k : Int) (ov : Value) (w : World) (hown : w.ownsRow base 5 1 ov n (nats .u8 bs)) (hB : base ≤ w.heap.size) (hu : u < 18446744073709551616) (hsz : n ≤ 100000000000000) :
    Calls Try.prog 18 #[ov, .int .u64 (u : Int), .int .i64 k] w fun e w' => ∃ v', e = .returned v' ∧ w'.ownsRow base 5 1 v' (n + (bigP u k).length) (nats .u8 (bs ++ bigP u k)) ∧ Below base w w' := by
  obtain ⟨i0, hi, hz0, hz1, hz2⟩ := info_parts Try.info5
  unfold bigP
  by_cases h : 1 ≤ k ∧ k ≤ 8
  · rw [if_pos h]
    obtain ⟨K, rfl⟩ : ∃ K : Nat, k = (K : Int) := ⟨k.toNat, by omega⟩
    have hK1 : 1 ≤ K := by omega
    have hK8 : K ≤ 8 := by omega
    rw [Int.toNat_natCast]
    have HL := Lib.hid (bigB_length K u)
    generalize hR : bigB K u = R at *
    have HR := Lib.hid hR
    clear h hR
    go_enter Try.func18, Try.ntmps18
    go_wp2_with fail
    go_loopw [0, 7] (fun ov iv wr => ∃ (m : Nat) (pre : List Nat), iv = .int .i64 ((m : Int) - 1) ∧ RBig w base n bs u m R pre K ov wr) (fun _ iv _ => (intOf iv + 1).toNat)
    case atStart => exact ⟨K, [], rfl, by simp, by simpa using HR.out, by simpa using hown, Below.refl _ _⟩
    case round =>
      obtain ⟨m, pre, rfl, hP⟩ := hrel
      have hlen := hP.len
      have hown1 := hP.own
      have hBs : base ≤ wr.heap.size := Nat.le_trans hB hP.bel.size
      cases m with
      | zero =>
        have H1 := Lib.hid hP.whole
        have Hb := Lib.hid hP.bel
        clear hP
        go_wp2_with fail
        go_ret
        have h1 := H1.out
        simp only [bigB, List.append_nil] at h1
        subst h1
        exact ⟨_, rfl, hown1, Hb.out⟩
      | succ m =>
        have em : ((m + 1 : Nat) : Int) - 1 = (m : Int) := by omega
        rw [em]
        have HP := Lib.hid hP
        clear em hP
        go_wp2_with (at_builtin; refine wpList_append_sl rfl _ _ 29 rfl base 5 i0 (.int .u8 0) 1 Try.underlying29 hi hz0 hz1 hz2 rfl _ _ _ rfl (hown1.alloc _) _ 1 1 _ rfl (Sl.one_new wr _ 5 rfl) ?c1 ?c2 ?c3 ?_)
        case c1 => unfold maxLen; omega
        case c2 => omega
        case c3 => simp; omega
        intro v' w' h1 h2 _ _
        have HP2 := Lib.hid (HP.out.step h1 ((Below.refl _ _).alloc hBs _ |>.trans h2))
        clear h1 h2
        go_wp2_with fail
        refine ⟨⟨m, _, by go_num, HP2.out⟩, by simp only [intOf]; omega⟩
  · rw [if_neg h, List.append_nil, List.length_nil, Nat.add_zero]
    rcases (show k < 1 ∨ 8 < k from by omega) with h1 | h1
    · have d : decide (k < 1) = true := decide_eq_true h1
      go_enter Try.func18, Try.ntmps18
      go_wp2_with fail
      go_ret
      exact ⟨_, rfl, hown, Below.refl _ _⟩
    · have d : decide (k < 1) = false := decide_eq_false (by omega)
      have d2 : decide (8 < k) = true := decide_eq_true h1
      go_enter Try.func18, Try.ntmps18
      go_wp2_with fail
      go_ret
      exact ⟨_, rfl, hown, Below.refl _ _⟩

end Go.Proofs.Ytehcbgnoiogncaa
