/- PackBack: the walk. -/
import Derived.Test.YtepkboilfgmkkaaPackKnown
namespace Go.Proofs.Ytepkboilfgmkkaa
open Go.RowKit
open PackMath
set_option linter.unusedVariables false

theorem putSpec_length (l : List Nat) (width : Nat) : (putSpec l width).length = nbytes (l.length * width) := bytesOf_length _ _

theorem bytesF_nat (count width : Nat) (hc : count ≤ 1048576) (hw : width ≤ 64) : bytesF (count : Int) (width : Int) = ((nbytes (count * width) : Nat) : Int) := by
  unfold bytesF nbytes
  rw [if_neg (by omega)]
  have : ((count : Int) * (width : Int)) = ((count * width : Nat) : Int) := by simp
  rw [this]; omega

theorem get_put (l : List Nat) (width : Nat) : getSpec (putSpec l width) 0 l.length width = l.map (· % 2 ^ width) := by
  refine List.ext_getElem (by simp [getSpec]) fun i h1 h2 => ?_
  have hi : i < l.length := by simpa [getSpec] using h1
  simp only [getSpec, List.getElem_map, List.getElem_range]
  rw [← numOf_bits]
  refine numOf_congr _ _ _ fun k hk => ?_
  have hlt : i * width + k < l.length * width := by
    have : (i + 1) * width ≤ l.length * width := Nat.mul_le_mul_right _ hi
    rw [Nat.add_mul, Nat.one_mul] at this
    omega
  have hb := bytesOf_bit (bitOf l width) (nbytes (l.length * width)) (0 + i * width + k) (by unfold nbytes; omega)
  unfold putSpec
  rw [hb, show 0 + i * width + k = i * width + k from by omega, bit_at l width i k hi hk, getD_eq _ _ hi]

theorem len_one (n c : Nat) (h : n ≤ c) (hm : c ≤ maxLen) : (n : Int) ≤ 9223372036854775807 := by unfold maxLen at hm; omega

set_option maxHeartbeats 3200000 in
theorem law_PackBack (A : Option Addr) (n c : Nat) (l : List Nat) (width : Int) (w : World) (hl : Sl w A n c (nats .u64 l)) (hb : ∀ x ∈ l, x < 18446744073709551616) (_hw : -9223372036854775808 ≤ width ∧ width ≤ 9223372036854775807) :
    Calls Try.prog 4 #[.slice A n c, .int .i64 width] w fun e w' => e = .returned (.bool true) ∧ Below w.heap.size w w' := by
  have hn63 := len_one n c hl.le hl.max
  by_cases h1 : 600 < n
  · go_enter Try.func4, Try.ntmps4
    go_wp2_with fail
    refine (known2 _).mono ?_
    rintro e w1 ⟨rfl, hb1⟩
    go_wp2_with fail
    go_ret
    exact ⟨rfl, hb1⟩
  by_cases h2 : width < 0
  · go_enter Try.func4, Try.ntmps4
    go_wp2_with fail
    refine (known2 _).mono ?_
    rintro e w1 ⟨rfl, hb1⟩
    go_wp2_with fail
    go_ret
    exact ⟨rfl, hb1⟩
  by_cases h3 : 64 < width
  · go_enter Try.func4, Try.ntmps4
    go_wp2_with fail
    refine (known2 _).mono ?_
    rintro e w1 ⟨rfl, hb1⟩
    go_wp2_with fail
    go_ret
    exact ⟨rfl, hb1⟩
  obtain ⟨wd, rfl⟩ : ∃ wd : Nat, width = (wd : Int) := ⟨width.toNat, by omega⟩
  have hwd : wd ≤ 64 := by omega
  have hlen := hl.len
  rw [nats_length] at hlen
  have hbf := bytesF_nat n wd (by omega) hwd
  have Hlen := Lib.hid hlen
  have Hbf := Lib.hid hbf
  clear hlen hbf
  have Hgp := Lib.hid (get_put l wd)
  have Hb := Lib.hid hb
  clear hb
  go_enter Try.func4, Try.ntmps4
  go_wp2_with fail
  refine (known2 _).mono ?_
  rintro e w1 ⟨rfl, hb1⟩
  have hl1 := hl.keep hb1
  go_wp2_with fail
  refine (put_ok none 0 0 [] A n c l wd w1 (Sl.none_ _) hl1 Hb.out hwd (by omega)).mono ?_
  rintro e w2 ⟨A', m, c', rfl, hs, hb2⟩
  rw [List.nil_append] at hs
  have hm := hs.len
  rw [nats_length, putSpec_length, Hlen.out] at hm
  have hget := get_ok A' m c' (putSpec l wd) 0 n wd w2 hs (fun b hb => bytesOf_lt _ _ b hb) hwd (by omega) (by rw [Hbf.out]; omega) (by omega)
  rw [Nat.mul_zero, Hbf.out, ← Hlen.out, Hgp.out, Hlen.out, hm] at hget
  have Hget := Lib.hid hget
  have Hm := Lib.hid hm
  have B2 := below_trans' hb1 hb2
  have hm63 := len_one m c' hs.le hs.max
  clear hget hm hs hb1 hb2 hl1
  go_wp2_with fail
  refine Hget.out.mono ?_
  rintro e w3 ⟨A3, c3, rfl, hs3, hb3⟩
  have B3 := below_trans' B2 hb3
  clear hb3 B2
  have hbytes : ∀ W : World, Calls Try.prog 22 #[.int .i64 (n : Int), .int .i64 (wd : Int)] W fun e w' => e = .returned (.int .i64 (m : Int)) ∧ W = w' := fun W => by
    have := bytes_p (n : Int) (wd : Int) W
    rw [Hbf.out, Hm.out] at this
    exact this
  have Hby := Lib.hid hbytes
  clear hbytes
  go_wp2_with fail
  refine (Hby.out _).mono ?_
  rintro e w4 ⟨rfl, rfl⟩
  go_wp2_with fail
  go_loopw [9] (fun iv wr => ∃ i : Nat, i ≤ n ∧ iv = .int .i64 (i : Int) ∧ wr = w3) (fun iv _ => n - (intOf iv).toNat)
  case atStart => exact ⟨0, Nat.zero_le _, rfl, rfl⟩
  case round =>
    obtain ⟨i, hi, rfl, rfl⟩ := hrel
    by_cases hlt : i < n
    · obtain ⟨b, off, rfl, hbw, hcell⟩ := hl.at_ (by omega)
      obtain ⟨b', off', rfl, hbw', hcell'⟩ := hs3.at_ (by omega)
      have k1 : wr.cell? ⟨b, off + i, none⟩ = some ((nats .u64 l).getD i undef) := (B3.cell (p := ⟨b, off + i, none⟩) hbw).trans (hcell i hlt)
      have k2 := hcell' i hlt
      rw [nats_getD _ _ _ (by rw [Hlen.out]; exact hlt)] at k1
      rw [nats_getD _ _ _ (by rw [List.length_map, Hlen.out]; exact hlt), getD_eq _ _ (by rw [List.length_map, Hlen.out]; exact hlt), List.getElem_map, ← getD_eq _ _ (by rw [Hlen.out]; exact hlt)] at k2
      have hx : l.getD i 0 < 18446744073709551616 := by
        rw [getD_eq _ _ (by rw [Hlen.out]; exact hlt)]; exact Hb.out _ (List.getElem_mem _)
      generalize l.getD i 0 = x at *
      have hand := fun h63 : wd ≤ 63 => and_mask_u64 x wd hx h63
      clear hcell hcell'
      by_cases h64 : wd < 64
      · have hand' := hand (by omega)
        have hwd63 : wd ≤ 63 := by omega
        have hne : ((x : Int) % 2 ^ wd != bits .and .u64 (x : Int) (IntKind.u64.wrap (IntKind.u64.wrap (2 ^ wd) - 1))) = false := by rw [hand']; simp
        clear hand hand'
        go_wp2_with fail
        refine ⟨⟨i + 1, by omega, by go_num, by first | rfl | trivial⟩, by simp only [intOf]; omega⟩
      · have e64 : wd = 64 := by omega
        subst e64
        rw [show x % 2 ^ 64 = x from Nat.mod_eq_of_lt hx] at k2
        clear hand
        go_wp2_with fail
        refine ⟨⟨i + 1, by omega, by go_num, by first | rfl | trivial⟩, by simp only [intOf]; omega⟩
    · go_wp2_with fail
      go_ret
      exact ⟨rfl, B3⟩
end Go.Proofs.Ytepkboilfgmkkaa
