/- The reference's Get: what it reads. -/
import Derived.Test.YtepkboilfgmkkaaPackMath
import Derived.Test.YtepkboilfgmkkaaBits
import Derived.Test.YtepkboilfgmkkaaPackWid
namespace Go.Proofs.Ytepkboilfgmkkaa
open Go.RowKit
open PackMath
set_option linter.unusedVariables false

/-- The reference's Get: the numbers so far, the next one of m bits. -/
structure RGet (w : World) (bs : List Nat) (base width i : Nat) (v bit : Value) (wr : World) : Prop where
  bit : bit = .int .i64 ((base + i * width : Nat) : Int)
  own : wr.ownsRow w.heap.size 34 1 v i (nats .u64 (getSpec bs base i width))
  bel : Below w.heap.size w wr

theorem rget_step (x m y s z : Nat) (hx : x < 2 ^ m) (hm : m < 64) (hy : y < 256) (hz : y / 2 ^ s % 2 = z) :
    bits .or .u64 (IntKind.u64.wrap ((x : Int) * 2)) (IntKind.u64.wrap (bits .and .u8 ((y : Int) / 2 ^ s) 1)) = ((2 * x + z : Nat) : Int) := by
  have h1 : y / 2 ^ s ≤ y := Nat.div_le_self _ _
  have hp : 2 ^ m ≤ 2 ^ 63 := Nat.pow_le_pow_right (by decide) (by omega)
  have e1 : IntKind.u64.wrap ((x : Int) * 2) = ((2 * x : Nat) : Int) := by rw [IntKind.wrap_u64]; omega
  rw [e1, div_pow_cast, show (1 : Int) = ((1 : Nat) : Int) from rfl, bits_and_u8 _ _ (by omega) (by decide), Nat.and_one_is_mod, hz, show IntKind.u64.wrap (z : Int) = (z : Int) from by rw [IntKind.wrap_u64]; omega, bits_or_u64 _ _ (by omega) (by omega)]
  have : z < 2 ^ 1 := by omega
  have h2 := Nat.two_pow_add_eq_or_of_lt (i := 1) this x
  rw [Nat.pow_one] at h2
  rw [h2]

set_option maxHeartbeats 1600000 in
theorem rget_ok (A : Option Addr) (n c : Nat) (bs : List Nat) (at_ count width : Nat) (w : World) (hb : Sl w A n c (nats .u8 bs)) (hbs : ∀ b ∈ bs, b < 256)
    (hw : width ≤ 64) (hc : count ≤ 1048576) (hr : bytesF count width ≤ (n : Int) - at_) (hat : at_ ≤ n) (hn : n ≤ 100000000000000) :
    Calls Try.prog 18 #[.slice A n c, .int .i64 (at_ : Int), .int .i64 (count : Int), .int .i64 (width : Int)] w fun e w' =>
      ∃ A' c', e = .returned (.tuple #[.slice A' count c', .int .i64 (bytesF count width), .int .i64 0]) ∧ Sl w' A' count c' (nats .u64 (getSpec bs (8 * at_) count width)) ∧ Below w.heap.size w w' := by
  have Hlen : Hid (bs.length = n) := by have := hb.len; rw [nats_length] at this; exact this
  have hcw : count * width ≤ 1048576 * 64 := Nat.le_trans (Nat.mul_le_mul_right _ hc) (Nat.mul_le_mul_left _ hw)
  have hbf : bytesF count width = ((nbytes (count * width) : Nat) : Int) := by
    unfold bytesF nbytes
    rw [if_neg (by omega)]
    have : ((count : Int) * (width : Int)) = ((count * width : Nat) : Int) := by simp
    rw [this]; omega
  have hroom : nbytes (count * width) ≤ n - at_ := by omega
  generalize hbz : bytesF count width = bz at *
  have Hbz := Lib.hid hbz
  have Hbf := Lib.hid hbf
  clear hbz hbf
  have t1 : ¬ ((at_ : Int) < 0) := by omega
  have t2 : (at_ : Int) ≤ (n : Int) := by omega
  have t3 : (0 : Int) ≤ (count : Int) := by omega
  have t4 : (count : Int) ≤ 1048576 := by omega
  have t5 : (0 : Int) ≤ (width : Int) := by omega
  have t6 : (width : Int) ≤ 64 := by omega
  have hby : ∀ W : World, Calls Try.prog 23 #[.int .i64 (count : Int), .int .i64 (width : Int)] W fun e w' => e = .returned (.int .i64 bz) ∧ W = w' := fun W => by rw [← Hbz.out]; exact bytes_r _ _ _
  have Hby := Lib.hid hby
  clear hby
  obtain ⟨i0, hi, hz0, hz1, hz2⟩ := info_parts Try.info34
  go_enter Try.func18, Try.ntmps18
  go_wp2_with (go_at_call 23; refine (Hby.out _).mono ?_; rintro e w1 ⟨rfl, rfl⟩)
  go_loopw [12, 13, 14] (fun v bit ix wr => ∃ i : Nat, i ≤ count ∧ ix = .int .i64 (i : Int) ∧ RGet w bs (8 * at_) width i v bit wr) (fun _ _ ix _ => count - (intOf ix).toNat)
  case atStart => exact ⟨0, Nat.zero_le _, rfl, congrArg (Value.int .i64) (by omega), World.ownsRow_nil _ _ _ _, Below.refl _ _⟩
  case round =>
    obtain ⟨i, hi', rfl, hout⟩ := hrel
    by_cases hlt : i < count
    · obtain ⟨rfl, hown1, hbel1⟩ := hout
      have hb1 : 8 * at_ + i * width ≤ 900000000000000 := by
        have h1 : i * width ≤ count * width := Nat.mul_le_mul_right _ (by omega)
        omega
      have hnext : 8 * at_ + i * width + width = 8 * at_ + (i + 1) * width := by rw [Nat.add_mul, Nat.one_mul]; omega
      have hall : 8 * at_ + i * width + width ≤ 8 * n := by
        have h1 : (i + 1) * width ≤ count * width := Nat.mul_le_mul_right _ hlt
        rw [Nat.add_mul, Nat.one_mul] at h1
        unfold nbytes at hroom
        omega
      have hsucc := getSpec_succ bs (8 * at_) i width
      generalize hB0 : 8 * at_ + i * width = B0 at *
      have HB0 := Lib.hid hB0
      have Hnext := Lib.hid hnext
      have Hsucc := Lib.hid hsucc
      clear hB0 hnext hsucc
      have hB := hbel1.size
      go_wp2_with fail
      go_loopw [13, 15, 16] (fun bit xv kv wq => ∃ m : Nat, m ≤ width ∧ kv = .int .i64 (m : Int) ∧ bit = .int .i64 ((B0 + m : Nat) : Int) ∧ xv = .int .u64 ((numOf m (fun k => bitAt bs (B0 + k)) : Nat) : Int) ∧ wq = wr) (fun _ _ kv _ => width - (intOf kv).toNat)
      case atStart => exact ⟨0, Nat.zero_le _, rfl, rfl, rfl, rfl⟩
      case round =>
        obtain ⟨m, hm, rfl, rfl, rfl, rfl⟩ := hrel
        by_cases hlm : m < width
        · have hNat : (B0 + m) / 8 < n := by omega
          have hxm := numOf_lt m (fun k => bitAt bs (B0 + k))
          have hnx : numOf (m + 1) (fun k => bitAt bs (B0 + k)) = 2 * numOf m (fun k => bitAt bs (B0 + k)) + (bitAt bs (B0 + m)).toNat := rfl
          have hbv := bitAt_val bs (B0 + m)
          obtain ⟨b, off, rfl, hbw, hcell⟩ := hb.at_ (by omega)
          have hcx : wr.cell? ⟨b, off + (B0 + m) / 8, none⟩ = some (.int .u8 ((bs.getD ((B0 + m) / 8) 0 : Nat) : Int)) := by
            rw [hbel1.cell (p := ⟨b, off + (B0 + m) / 8, none⟩) hbw, hcell _ hNat, nats_getD _ _ _ (by rw [Hlen.out]; exact hNat)]
          have hb8 : bs.getD ((B0 + m) / 8) 0 < 256 := by
            rw [getD_eq _ _ (by rw [Hlen.out]; exact hNat)]; exact hbs _ (List.getElem_mem _)
          generalize hy : bs.getD ((B0 + m) / 8) 0 = y at *
          generalize hx : numOf m (fun k => bitAt bs (B0 + k)) = x at *
          have Hst := Lib.hid (rget_step x m y (7 - (B0 + m) % 8) _ hxm (by omega) hb8 hbv)
          have Hnx := Lib.hid hnx
          clear hnx hbv hy hx hcell
          go_wp2_with fail
          refine ⟨⟨m + 1, by omega, by go_num, by go_num, ?_, by first | rfl | trivial⟩, by simp only [intOf]; omega⟩
          rw [Hnx.out, ← Hst.out]
        · have hmw : m = width := by omega
          subst hmw
          generalize hx : numOf m (fun k => bitAt bs (B0 + k)) = x at *
          have Hx := Lib.hid hx
          clear hx
          have hown3 : (wr.alloc (.cells #[.int .u64 (x : Int)] 34)).ownsRow w.heap.size 34 1 _ i (nats .u64 (getSpec bs (8 * at_) i m)) := hown1.alloc _
          go_wp2_with (at_builtin; refine wpList_append_sl rfl _ _ 23 rfl w.heap.size 34 i0 (.int .u64 0) 8 Try.underlying23 hi hz0 hz1 hz2 rfl _ _ _ rfl hown3 _ 1 1 _ rfl (Sl.one_new wr (.int .u64 (x : Int)) 34 rfl) ?d1 ?d2 ?d3 ?_)
          case d1 => unfold maxLen; omega
          case d2 => omega
          case d3 => simp; omega
          intro v' w' h1 h2 _ _
          go_wp2_with fail
          have h3 := h1
          rw [show ([Value.int .u64 (x : Int)] : List Value) = nats .u64 [x] from rfl, ← nats_append, ← Hsucc.out] at h3
          refine ⟨⟨i + 1, by omega, by go_num, ?_, h3, (hbel1.alloc hB _).trans h2⟩, by simp only [intOf]; omega⟩
          rw [← Hnext.out]
          go_num
    · have hic : i = count := by omega
      subst hic
      obtain ⟨A', c', hv, hs⟩ := Sl.of_own hout.own (nats_one _ _)
      subst hv
      go_wp2_with fail
      go_ret3
      exact ⟨_, _, rfl, hs, hout.bel⟩
end Go.Proofs.Ytepkboilfgmkkaa
