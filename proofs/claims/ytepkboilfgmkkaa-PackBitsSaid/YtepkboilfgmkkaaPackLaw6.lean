/- PackBits: the walk. -/
import Derived.Test.YtepkboilfgmkkaaPackLaw2
import Derived.Test.YtepkboilfgmkkaaRowB
namespace Go.Proofs.Ytepkboilfgmkkaa
open Go.RowKit
open PackMath
set_option linter.unusedVariables false

/-- 'c >> k & 1 == 1' of a byte. -/
theorem bit_test_u8 (x k : Nat) (hx : x < 256) : (bits .and .u8 ((x : Int) / 2 ^ k) 1 == 1) = x.testBit k := by
  have h1 : x / 2 ^ k ≤ x := Nat.div_le_self _ _
  rw [div_pow_cast, show (1 : Int) = ((1 : Nat) : Int) from rfl, bits_and_u8 _ _ (by omega) (by decide), Nat.and_one_is_mod, Nat.testBit_eq_decide_div_mod_eq]
  generalize x / 2 ^ k % 2 = z
  by_cases hz : z = 1
  · subst hz; rfl
  · rw [decide_eq_false hz, beq_eq_false_iff_ne]; omega

theorem one_bits (l : List Bool) (i : Nat) (h : i < 8 * nbytes l.length) : bitAt (putSpec (l.map Bool.toNat) 1) i = (decide (i < l.length) && l.getD i false) := by
  unfold putSpec
  rw [List.length_map, Nat.mul_one, bytesOf_bit _ _ _ h]
  unfold bitOf
  rw [List.length_map, Nat.mul_one, Nat.div_one]
  by_cases hi : i < l.length
  · rw [decide_eq_true hi]
    simp only [Bool.true_and, Nat.mod_one]
    simp [hi, Nat.testBit_zero]
    cases l[i] <;> rfl
  · rw [decide_eq_false hi]; rfl

set_option maxHeartbeats 3200000 in
theorem law_PackBits (A : Option Addr) (n c : Nat) (l : List Bool) (w : World) (hl : Sl w A n c (bools l)) :
    Calls Try.prog 7 #[.slice A n c] w fun e w' => e = .returned (.bool true) ∧ Below w.heap.size w w' := by
  have hn63 := len_one n c hl.le hl.max
  by_cases h1 : 600 < n
  · go_enter Try.func7, Try.ntmps7
    go_wp2_with fail
    refine (known2 _).mono ?_
    rintro e w1 ⟨rfl, hb1⟩
    go_wp2_with fail
    go_ret
    exact ⟨rfl, hb1⟩
  have hlen := hl.len
  rw [bools_length] at hlen
  have Hlen := Lib.hid hlen
  clear hlen
  obtain ⟨i0, hi, hz0, hz1, hz2⟩ := info_parts Try.info34
  go_enter Try.func7, Try.ntmps7
  go_wp2_with fail
  refine (known2 _).mono ?_
  rintro e w1 ⟨rfl, hb1⟩
  go_wp2_with fail
  go_loopw [3, 4] (fun v ix wr => ∃ i : Nat, i ≤ n ∧ ix = .int .i64 (i : Int) ∧ wr.ownsRow w.heap.size 34 1 v i (nats .u64 ((l.take i).map Bool.toNat)) ∧ Below w.heap.size w wr) (fun _ ix _ => n - (intOf ix).toNat)
  case atStart => exact ⟨0, Nat.zero_le _, rfl, by simpa [nats] using World.ownsRow_nil _ _ _ _, hb1⟩
  case round =>
    obtain ⟨i, hi', rfl, hown, hbel⟩ := hrel
    by_cases hlt : i < n
    · obtain ⟨b, off, rfl, hbw, hcell⟩ := hl.at_ (by omega)
      have hcl := hcell i hlt
      rw [bools_getD _ _ (by rw [Hlen.out]; exact hlt)] at hcl
      have hc1 : wr.cell? ⟨b, off + i, none⟩ = some (.bool (l.getD i false)) := (hbel.cell (p := ⟨b, off + i, none⟩) hbw).trans hcl
      have hst : (l.take (i + 1)).map Bool.toNat = (l.take i).map Bool.toNat ++ [(l.getD i false).toNat] := by
        have hil : i < l.length := by rw [Hlen.out]; exact hlt
        rw [List.take_succ_eq_append_getElem hil, List.map_append, List.getD_eq_getElem?_getD, List.getElem?_eq_getElem hil]
        rfl
      have Hst := Lib.hid hst
      have hown3 : ∀ z, (wr.alloc z).ownsRow w.heap.size 34 1 _ i _ := fun z => hown.alloc z
      have hBs := hbel.size
      clear hst hcell hcl
      generalize l.getD i false = x at *
      cases x
      all_goals
        go_wp2_with (at_builtin; refine wpList_append_sl rfl _ _ 23 rfl w.heap.size 34 i0 (.int .u64 0) 8 Try.underlying23 hi hz0 hz1 hz2 rfl _ _ _ rfl (hown3 _) _ 1 1 _ rfl (Sl.one_new wr _ 34 rfl) (by unfold maxLen; omega) (by omega) (by simp; omega) ?_; intro v' w' g1 g2 _ _)
        refine ⟨⟨i + 1, by omega, by go_num, ?_, (hbel.alloc hBs _).trans g2⟩, by simp only [intOf]; omega⟩
        rw [Hst.out, nats_append]
        exact g1
    · have hin : n = i := by omega
      subst hin
      have htk : l.take n = l := List.take_of_length_le (by rw [Hlen.out]; omega)
      rw [htk] at hown
      have Hbits := Lib.hid (one_bits l)
      have Hlp : Hid ((putSpec (l.map Bool.toNat) 1).length = nbytes n) := by
        have : (putSpec (l.map Bool.toNat) 1).length = nbytes n := by rw [putSpec_length, List.length_map, Nat.mul_one, Hlen.out]
        exact this
      have Hnb : Hid (nbytes n = (n + 7) / 8) := rfl
      have Hlt : Hid (∀ b ∈ putSpec (l.map Bool.toNat) 1, b < 256) := fun b hb => bytesOf_lt _ _ b hb
      obtain ⟨Au, cu, rfl, su⟩ := Sl.of_own hown (nats_one _ _)
      have hu : ∀ x ∈ l.map Bool.toNat, x < 18446744073709551616 := by
        intro x hx
        simp only [List.mem_map] at hx
        obtain ⟨b, _, rfl⟩ := hx
        have := Bool.toNat_le b
        omega
      have Hu := Lib.hid hu
      clear hu htk hown
      generalize hus : l.map Bool.toNat = us at *
      clear hus
      go_wp2_with fail
      refine (put_ok none 0 0 [] Au n cu us 1 wr (Sl.none_ _) su Hu.out (by omega) (by omega)).mono ?_
      rintro e w3 ⟨Ab, m, cb, rfl, sb, hb3⟩
      rw [List.nil_append] at sb
      have hm : m = nbytes n := by rw [← Hlp.out, ← sb.len, nats_length]
      subst hm
      have B3 := below_trans' hbel hb3
      generalize hbs : putSpec us 1 = bs at *
      have hnb : nbytes n ≤ 100 := by rw [Hnb.out]; omega
      clear hbs hb3 su
      go_wp2_with fail
      go_loopw [7] (fun ix wq => ∃ i : Nat, i ≤ 8 * nbytes n ∧ ix = .int .i64 (i : Int) ∧ wq = w3) (fun ix _ => 8 * nbytes n - (intOf ix).toNat)
      case atStart => exact ⟨0, Nat.zero_le _, rfl, rfl⟩
      case round =>
        obtain ⟨i, hi2, rfl, rfl⟩ := hrel
        by_cases hlt2 : i < 8 * nbytes n
        · obtain ⟨b, off, rfl, hbw, hcell⟩ := sb.at_ (by omega)
          have hcl := hcell (i / 8) (by omega)
          rw [nats_getD _ _ _ (by rw [Hlp.out]; omega)] at hcl
          have hy : bs.getD (i / 8) 0 < 256 := by rw [getD_eq _ _ (by rw [Hlp.out]; omega)]; exact Hlt.out _ (List.getElem_mem _)
          have hbit := Hbits.out i (by rw [Hlen.out]; exact hlt2)
          unfold bitAt at hbit
          generalize bs.getD (i / 8) 0 = y at *
          have htest := bit_test_u8 y (7 - i % 8) hy
          rw [hbit, Hlen.out] at htest
          clear hcell hbit
          by_cases hin : i < n
          · obtain ⟨b2, off2, rfl, hbw2, hcell2⟩ := hl.at_ (by omega)
            have hcl2 := hcell2 i hin
            rw [bools_getD _ _ (by rw [Hlen.out]; exact hin)] at hcl2
            have hc2 : wr.cell? ⟨b2, off2 + i, none⟩ = some (.bool (l.getD i false)) := (B3.cell (p := ⟨b2, off2 + i, none⟩) hbw2).trans hcl2
            rw [decide_eq_true hin, Bool.true_and] at htest
            generalize l.getD i false = x at *
            clear hcell2 hcl2
            go_wp2_with fail
            refine ⟨⟨i + 1, by omega, by go_num, by first | rfl | trivial⟩, by simp only [intOf]; omega⟩
          · rw [decide_eq_false hin, Bool.false_and] at htest
            go_wp2_with fail
            refine ⟨⟨i + 1, by omega, by go_num, by first | rfl | trivial⟩, by simp only [intOf]; omega⟩
        · have e := Hnb.out
          go_wp2_with fail
          go_ret
          exact ⟨by first | rfl | simp, B3⟩
end Go.Proofs.Ytepkboilfgmkkaa
