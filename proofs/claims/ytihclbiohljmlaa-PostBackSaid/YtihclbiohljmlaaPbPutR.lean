/- The reference's PutInt, PutBytes: what they answer. -/
import Derived.Test.YtihclbiohljmlaaPbPut
namespace Go.Proofs.Ytihclbiohljmlaa
open Go.RowKit
set_option linter.unusedVariables false

set_option maxHeartbeats 1600000 in
theorem putint_r (base n : Nat) (bs : List Nat) (num v : Int) (ov : Value) (w : World) (hown : w.ownsRow base 5 1 ov n (nats .u8 bs)) (hB : base ≤ w.heap.size) (hv : InI v) (hsz : n ≤ 1000000000000) :
    Calls Try.prog 26 #[ov, .int .i64 num, .int .i64 v] w fun e w' => ∃ v', e = .returned v' ∧ w'.ownsRow base 5 1 v' (n + (putU num (zigS v).toNat).length) (nats .u8 (bs ++ putU num (zigS v).toNat)) ∧ Below base w w' := by
  have hz : zigS v = ((zigS v).toNat : Int) ∧ (zigS v).toNat < 18446744073709551616 := by
    obtain ⟨a1, a2⟩ := hv
    unfold zigS
    split <;> omega
  obtain ⟨h1, h2⟩ := hz
  have H1 := Lib.hid h1
  have H2 := Lib.hid h2
  have Hv := Lib.hid hv
  clear h1 h2 hv
  go_enter Try.func26, Try.ntmps26
  go_wp2_with fail
  refine (zig_r v w Hv.out).mono ?_
  rintro e w1 ⟨rfl, rfl⟩
  go_wp2_with fail
  rw [H1.out]
  refine (putuint_r base n bs num _ ov _ hown hB H2.out hsz).mono ?_
  rintro e w2 ⟨v2, rfl, ho2, hb2⟩
  go_wp2_with fail
  go_ret
  exact ⟨_, rfl, ho2, hb2⟩

set_option maxHeartbeats 1600000 in
set_option maxRecDepth 4000 in
theorem putbytes_r (base n : Nat) (bs : List Nat) (num : Int) (ov : Value) (B : Option Addr) (m cb : Nat) (l : List Nat) (w : World) (hown : w.ownsRow base 5 1 ov n (nats .u8 bs)) (hB : base ≤ w.heap.size)
    (hl : Sl w B m cb (nats .u8 l)) (hlow : ∀ w', Below base w w' → Sl w' B m cb (nats .u8 l)) (hsz : n ≤ 1000000000000) (hsm : m ≤ 1000000000000) :
    Calls Try.prog 28 #[ov, .int .i64 num, .slice B m cb] w fun e w' => ∃ v', e = .returned v' ∧ w'.ownsRow base 5 1 v' (n + (putT num l).length) (nats .u8 (bs ++ putT num l)) ∧ Below base w w' := by
  obtain ⟨i0, hi, hz0, hz1, hz2⟩ := info_parts Try.info5
  by_cases hm : mayF num
  · obtain ⟨k, rfl⟩ : ∃ k : Nat, num = (k : Int) := ⟨num.toNat, by have := hm.1; omega⟩
    have hll : l.length = m := by have := hl.len; rw [nats_length] at this; exact this
    have hp : putT (k : Int) l = varP (k * 8 + 2) ++ varP m ++ l := by unfold putT; rw [if_pos hm, hll]; rfl
    rw [hp]
    have hd : decide (mayF (k : Int)) = true := decide_eq_true hm
    have h1 := hm.1
    have h2 := hm.2
    have Hk : Hid (1 ≤ k ∧ k ≤ 536870911) := ⟨by omega, by omega⟩
    have or2 := or_wire k 2 Hk.out.2 (by decide)
    rw [show ((2 : Nat) : Int) = 2 from rfl] at or2
    have Hd := Lib.hid hd
    have HL := Lib.hid hll
    clear hp hm h1 h2 hd hll
    go_enter Try.func28, Try.ntmps28
    go_wp2_with fail
    refine (may_r (k : Int) w).mono ?_
    rintro e w1 ⟨rfl, rfl⟩
    rw [Hd.out]
    have hkb : (k : Int) ≤ 536870911 := by have := Hk.out.2; omega
    go_wp2_with fail
    refine (putvar_r base n bs (k * 8 + 2) ov _ hown hB (by have := Hk.out.2; omega) (by omega)).mono ?_
    rintro e w2 ⟨v2, rfl, ho2, hb2⟩
    have hpl : (varP (k * 8 + 2)).length ≤ 10 := (pv_length 9 (k * 8 + 2)).2
    have hl2 := hlow _ hb2
    go_wp2_with fail
    refine (putvar_r base _ _ m v2 _ ho2 (Nat.le_trans hB hb2.size) (by omega) (by omega)).mono ?_
    rintro e w3 ⟨v3, rfl, ho3, hb3⟩
    have hpl2 : (varP m).length ≤ 10 := (pv_length 9 m).2
    have hl3 := hlow _ (hb2.trans hb3)
    have hB3 : base ≤ w3.heap.size := Nat.le_trans hB (hb2.trans hb3).size
    generalize hN : n + (varP (k * 8 + 2)).length + (varP m).length = N at *
    have hNl : N ≤ 1000000000020 := by omega
    have HN := Lib.hid hN
    clear hN hpl hpl2
    go_wp2_with (at_builtin; refine wpList_append_sl rfl (.tmp 20) (.tmp 21) 22 rfl base 5 i0 (.int .u8 0) 1 Try.underlying22 hi hz0 hz1 hz2 rfl _ N _ rfl ho3 B m cb _ rfl hl3 ?c1 ?c2 ?c3 ?_)
    case c1 => unfold maxLen; omega
    case c2 => omega
    case c3 => exact hB3
    intro v4 w4 ho4 hb4 hg4 hv4
    go_wp2_with fail
    go_ret
    refine ⟨_, rfl, ?_, (hb2.trans hb3).trans hb4⟩
    rw [← nats_append, List.append_assoc, List.append_assoc] at ho4
    rw [List.append_assoc, List.length_append, List.length_append, HL.out, show n + ((varP (k * 8 + 2)).length + ((varP m).length + m)) = N + m from by rw [← HN.out]; omega]
    exact ho4
  · have hp : putT num l = [] := by unfold putT; rw [if_neg hm]
    rw [hp, List.append_nil]
    have Hd : Hid (decide (mayF num) = false) := Lib.hid (decide_eq_false hm)
    clear hp hm
    go_enter Try.func28, Try.ntmps28
    go_wp2_with fail
    refine (may_r num w).mono ?_
    rintro e w1 ⟨rfl, rfl⟩
    rw [Hd.out]
    go_wp2_with fail
    go_ret
    exact ⟨_, rfl, hown, Below.refl _ _⟩
end Go.Proofs.Ytihclbiohljmlaa
