/- PackParts: the walk. -/
import Derived.Test.YtepkboilfgmkkaaPackLaw3
import Derived.Test.YtepkboilfgmkkaaPackSame
namespace Go.Proofs.Ytepkboilfgmkkaa
open Go.RowKit
open PackMath
set_option linter.unusedVariables false

theorem bit_take (l : List Nat) (k width i : Nat) (hk : k ≤ l.length) (hi : i < k * width) : bitOf (l.take k) width i = bitOf l width i := by
  have h0 : 0 < width := by rcases Nat.eq_zero_or_pos width with h | h; (subst h; simp at hi); exact h
  have hd : i / width < k := Nat.div_lt_of_lt_mul (by rw [Nat.mul_comm]; exact hi)
  have h1 : i < l.length * width := Nat.lt_of_lt_of_le hi (Nat.mul_le_mul_right _ hk)
  unfold bitOf
  rw [List.length_take, Nat.min_eq_left hk, decide_eq_true hi, decide_eq_true h1]
  simp [hd]

theorem bit_drop (l : List Nat) (k width i : Nat) (hk : k ≤ l.length) : bitOf (l.drop k) width i = bitOf l width (k * width + i) := by
  unfold bitOf
  rw [List.length_drop, Nat.sub_mul]
  have hle : k * width ≤ l.length * width := Nat.mul_le_mul_right _ hk
  by_cases hi : i < l.length * width - k * width
  · have h0 : 0 < width := by rcases Nat.eq_zero_or_pos width with h | h; (subst h; simp at hi); exact h
    rw [decide_eq_true hi, decide_eq_true (by omega), Nat.mul_comm k width, Nat.mul_add_div h0, Nat.mul_add_mod]
    simp [List.getElem?_drop]
  · rw [decide_eq_false hi, decide_eq_false (by omega)]
    rfl

theorem put_parts (l : List Nat) (k width : Nat) (hk : k ≤ l.length) (h8 : k * width % 8 = 0) : putSpec (l.take k) width ++ putSpec (l.drop k) width = putSpec l width := by
  have hle : k * width ≤ l.length * width := Nat.mul_le_mul_right _ hk
  have e1 : nbytes ((l.take k).length * width) = k * width / 8 := by rw [List.length_take, Nat.min_eq_left hk]; unfold nbytes; omega
  have e2 : nbytes (l.length * width) = k * width / 8 + nbytes ((l.drop k).length * width) := by
    rw [List.length_drop, Nat.sub_mul]; unfold nbytes; omega
  unfold putSpec
  rw [e1, e2]
  generalize nbytes ((l.drop k).length * width) = m
  unfold bytesOf
  refine List.ext_getElem (by simp) fun j h1 h2 => ?_
  simp only [List.length_append, List.length_map, List.length_range] at h1
  rw [List.getElem_append]
  simp only [List.length_map, List.length_range, List.getElem_map, List.getElem_range]
  split
  · refine numOf_congr _ _ _ fun t ht => ?_
    exact bit_take l k width _ hk (by omega)
  · refine numOf_congr _ _ _ fun t ht => ?_
    rw [bit_drop l k width _ hk]
    congr 1
    omega

theorem get_parts (b : List Nat) (n k width : Nat) (hk : k ≤ n) (h8 : k * width % 8 = 0) : getSpec b (8 * (k * width / 8)) (n - k) width = (getSpec b 0 n width).drop k := by
  refine List.ext_getElem (by simp [getSpec]) fun i h1 h2 => ?_
  rw [List.getElem_drop]
  simp only [getSpec, List.getElem_map, List.getElem_range]
  refine numOf_congr _ _ _ fun t _ => ?_
  congr 1
  rw [Nat.add_mul]
  omega

set_option maxHeartbeats 6400000 in
set_option maxRecDepth 100000 in
theorem law_PackParts (A : Option Addr) (n c : Nat) (l : List Nat) (cut width : Int) (w : World) (hl : Sl w A n c (nats .u64 l)) (hb : ∀ x ∈ l, x < 18446744073709551616)
    (_hc : -9223372036854775808 ≤ cut ∧ cut ≤ 9223372036854775807) (_hw : -9223372036854775808 ≤ width ∧ width ≤ 9223372036854775807) :
    Calls Try.prog 6 #[.slice A n c, .int .i64 cut, .int .i64 width] w fun e w' => e = .returned (.bool true) ∧ Below w.heap.size w w' := by
  have hn63 := len_one n c hl.le hl.max
  by_cases h1 : 600 < n
  · go_enter Try.func6, Try.ntmps6
    go_wp2_with fail
    refine (known2 _).mono ?_
    rintro e w1 ⟨rfl, hb1⟩
    go_wp2_with fail
    go_ret
    exact ⟨rfl, hb1⟩
  by_cases h2 : cut < 0
  · go_enter Try.func6, Try.ntmps6
    go_wp2_with fail
    refine (known2 _).mono ?_
    rintro e w1 ⟨rfl, hb1⟩
    go_wp2_with fail
    go_ret
    exact ⟨rfl, hb1⟩
  by_cases h3 : (n : Int) < cut
  · go_enter Try.func6, Try.ntmps6
    go_wp2_with fail
    refine (known2 _).mono ?_
    rintro e w1 ⟨rfl, hb1⟩
    go_wp2_with fail
    go_ret
    exact ⟨rfl, hb1⟩
  by_cases h4 : width < 0
  · go_enter Try.func6, Try.ntmps6
    go_wp2_with fail
    refine (known2 _).mono ?_
    rintro e w1 ⟨rfl, hb1⟩
    go_wp2_with fail
    go_ret
    exact ⟨rfl, hb1⟩
  by_cases h5 : 64 < width
  · go_enter Try.func6, Try.ntmps6
    go_wp2_with fail
    refine (known2 _).mono ?_
    rintro e w1 ⟨rfl, hb1⟩
    go_wp2_with fail
    go_ret
    exact ⟨rfl, hb1⟩
  obtain ⟨k, rfl⟩ : ∃ k : Nat, cut = (k : Int) := ⟨cut.toNat, by omega⟩
  obtain ⟨wd, rfl⟩ : ∃ wd : Nat, width = (wd : Int) := ⟨width.toNat, by omega⟩
  have hkn : k ≤ n := by omega
  have hwd : wd ≤ 64 := by omega
  have hkw : k * wd ≤ 600 * 64 := Nat.mul_le_mul (by omega) hwd
  have hcast : ((k : Int) * (wd : Int)) = ((k * wd : Nat) : Int) := by simp
  by_cases h8 : k * wd % 8 = 0
  case neg =>
    generalize hz : (k : Int) * (wd : Int) = z at *
    have z0 : 0 ≤ z := by omega
    have z1 : z ≤ 600 * 64 := by omega
    have z8 : (z % 8 != 0) = true := by rw [bne_iff_ne]; omega
    clear hcast h8
    go_enter Try.func6, Try.ntmps6
    go_wp2_with fail
    refine (known2 _).mono ?_
    rintro e w1 ⟨rfl, hb1⟩
    go_wp2_with fail
    go_ret
    exact ⟨rfl, hb1⟩
  have hlen := hl.len
  rw [nats_length] at hlen
  have HlenA : Hid ((putSpec (l.take k) wd).length ≤ 4800) := by
    have : (putSpec (l.take k) wd).length = nbytes (k * wd) := by rw [putSpec_length, List.length_take, hlen, Nat.min_eq_left hkn]
    have h2 : (putSpec (l.take k) wd).length ≤ 4800 := by rw [this]; unfold nbytes; omega
    exact h2
  have Hparts := Lib.hid (put_parts l k wd (by omega) h8)
  have Hgets := Lib.hid (fun b => get_parts b n k wd hkn h8)
  have Hbf := Lib.hid (bytesF_nat n wd (by omega) hwd)
  have Hbf2 := Lib.hid (bytesF_nat (n - k) wd (by omega) hwd)
  have Hnb : Hid (nbytes (n * wd) = k * wd / 8 + nbytes ((n - k) * wd)) := by
    have hle : k * wd ≤ n * wd := Nat.mul_le_mul_right _ hkn
    have : nbytes (n * wd) = k * wd / 8 + nbytes ((n - k) * wd) := by rw [Nat.sub_mul]; unfold nbytes; omega
    exact this
  have Hlen := Lib.hid hlen
  have Hb := Lib.hid hb
  obtain ⟨q, hq⟩ : ∃ q, q = k * wd / 8 := ⟨_, rfl⟩
  have hq8 : (k * wd : Nat) = 8 * q := by omega
  rw [hq8] at hcast
  have hq0 : (((8 * q : Nat) : Int) % 8 != 0) = false := by rw [bne_eq_false_iff_eq]; omega
  have Hq := Lib.hid hq
  have hqb : q ≤ 4800 := by omega
  clear hlen hb h8 hkw hq hq8
  obtain ⟨i0, hi, hz0, hz1, hz2⟩ := info_parts Try.info34
  go_enter Try.func6, Try.ntmps6
  go_wp2_with fail
  refine (known2 _).mono ?_
  rintro e w1 ⟨rfl, hb1⟩
  go_upto_region 5 with fail
  refine region_all _ [Fact.sl n (nats .u64 l), Fact.is (.int .i64 (k : Int)), Fact.sl k (nats .u64 (l.take k)), Fact.is (.int .i64 (wd : Int)), Fact.sl (putSpec (l.take k) wd).length (nats .u8 (putSpec (l.take k) wd)), Fact.sl n (nats .u64 l), Fact.is (.int .i64 (k : Int)), Fact.sl (n - k) (nats .u64 (l.drop k)), Fact.is (.int .i64 (wd : Int)), Fact.sl (putSpec (l.take k) wd ++ putSpec (l.drop k) wd).length (nats .u8 (putSpec (l.take k) wd ++ putSpec (l.drop k) wd)), Fact.sl (putSpec (l.take k) wd ++ putSpec (l.drop k) wd).length (nats .u8 (putSpec (l.take k) wd ++ putSpec (l.drop k) wd))] [[(0, none)], [(1, none)], [(45, some 0), (46, some 1)], [(2, none)], [(47, some 2), (48, some 3)], [(0, none)], [(1, none)], [(50, some 5), (51, some 6)], [(2, none)], [(49, some 4), (52, some 7), (53, some 8)], [(54, some 9)]] [true, true, true, true, true, true, true, true, true, true, true] (by kernel_rfl) (by kernel_rfl) ⟨⟨?_, ?_⟩, ⟨?_, ?_⟩, ⟨?_, ?_⟩, ⟨?_, ?_⟩, ⟨?_, ?_⟩, ⟨?_, ?_⟩, ⟨?_, ?_⟩, ⟨?_, ?_⟩, ⟨?_, ?_⟩, ⟨?_, ?_⟩, ⟨?_, ?_⟩, trivial⟩ ?_
  · intro ρ w' hc hB h0
    refine chain_run rfl ?_
    exact opk_move rfl ⟨Below.refl _ _, ⟨_, _, h0, (hl.keep hb1).keep hB⟩⟩
  · exact rfl
  · intro ρ w' hc hB h1
    refine chain_run rfl ?_
    exact opk_move rfl ⟨Below.refl _ _, h1⟩
  · exact rfl
  · intro ρ w' hc hB h45 h46
    refine chain_run rfl ?_
    obtain ⟨A1, c1, e1, s1⟩ := h45
    exact opk_slice_hi Try.underlying23 hi hz1 rfl e1 s1 h46 hkn ⟨Below.refl _ _, _, _, rfl, by have := s1.take k hkn; rw [nats, ← List.map_take] at this; exact this⟩
  · exact rfl
  · intro ρ w' hc hB h2
    refine chain_run rfl ?_
    exact opk_move rfl ⟨Below.refl _ _, h2⟩
  · exact rfl
  · intro ρ w' hc hB h47 h48
    refine chain_run rfl ?_
    obtain ⟨A1, c1, e1, s1⟩ := h47
    have e48 : ρ (Operand.tmp 48) = .int .i64 (wd : Int) := h48
    refine opk_call rfl hc Try.func20 (by kernel_rfl) (by kernel_rfl) ?_
    rw [show (#[Operand.const (Value.slice none 0 0), Operand.tmp 47, Operand.tmp 48] : Array Operand).map ρ = #[.slice none 0 0, .slice A1 k c1, .int .i64 (wd : Int)] from by simp [hc.1, e1, e48]]
    refine (put_ok none 0 0 [] A1 k c1 (l.take k) wd w' (Sl.none_ _) s1 (fun x hx => Hb.out x (List.mem_of_mem_take hx)) hwd (by omega)).mono ?_
    rintro e w2 ⟨A2, m2, c2, rfl, hs2, hb2⟩
    rw [List.nil_append] at hs2
    have hm2 : m2 = (putSpec (l.take k) wd).length := by rw [← hs2.len, nats_length]
    subst hm2
    exact ⟨_, rfl, hb2, _, _, rfl, hs2⟩
  · exact rfl
  · intro ρ w' hc hB h0
    refine chain_run rfl ?_
    exact opk_move rfl ⟨Below.refl _ _, ⟨_, _, h0, (hl.keep hb1).keep hB⟩⟩
  · exact rfl
  · intro ρ w' hc hB h1
    refine chain_run rfl ?_
    exact opk_move rfl ⟨Below.refl _ _, h1⟩
  · exact rfl
  · intro ρ w' hc hB h50 h51
    refine chain_run rfl ?_
    obtain ⟨A1, c1, e1, s1⟩ := h50
    exact opk_slice_lo Try.underlying23 hi hz1 rfl e1 s1 h51 hkn ⟨Below.refl _ _, _, _, rfl, by have := s1.drop k hkn; rw [nats, ← List.map_drop] at this; exact this⟩
  · exact rfl
  · intro ρ w' hc hB h2
    refine chain_run rfl ?_
    exact opk_move rfl ⟨Below.refl _ _, h2⟩
  · exact rfl
  · intro ρ w' hc hB h49 h52 h53
    refine chain_run rfl ?_
    obtain ⟨A1, c1, e1, s1⟩ := h49
    obtain ⟨A3, c3, e3, s3⟩ := h52
    have e53 : ρ (Operand.tmp 53) = .int .i64 (wd : Int) := h53
    refine opk_call rfl hc Try.func20 (by kernel_rfl) (by kernel_rfl) ?_
    rw [show (#[Operand.tmp 49, Operand.tmp 52, Operand.tmp 53] : Array Operand).map ρ = #[.slice A1 (putSpec (l.take k) wd).length c1, .slice A3 (n - k) c3, .int .i64 (wd : Int)] from by simp [e1, e3, e53]]
    refine (put_ok A1 _ c1 (putSpec (l.take k) wd) A3 (n - k) c3 (l.drop k) wd w' s1 s3 (fun x hx => Hb.out x (List.mem_of_mem_drop hx)) hwd (by have := HlenA.out; omega)).mono ?_
    rintro e w2 ⟨A2, m2, c2, rfl, hs2, hb2⟩
    have hm2 : m2 = (putSpec (l.take k) wd ++ putSpec (l.drop k) wd).length := by rw [← hs2.len, nats_length]
    subst hm2
    exact ⟨_, rfl, hb2, _, _, rfl, hs2⟩
  · exact rfl
  · intro ρ w' hc hB h54
    refine chain_run rfl ?_
    exact opk_assign rfl ⟨Below.refl _ _, h54⟩
  · exact rfl
  intro a' w2 hbe hsz hd hF hU
  obtain ⟨A7, c7, e7, s7⟩ := hF 10 _ 7 rfl rfl
  obtain ⟨f, hf, hlit⟩ := act_lit a' _ _ [45, 46, 47, 48, 49, 50, 51, 52, 53, 54, 7] hsz hd (fun t ht => hU t (by
    intro i o ho hod
    have := List.mem_filterMap.2 ⟨o, List.mem_of_getElem? ho, hod⟩
    revert this
    exact fun h => ht (by simpa using h)))
  rw [← hf] at e7
  rw [hlit]
  clear hF hU hlit hf hsz hd
  have B2 := below_trans' hb1 hbe
  have hlp : (putSpec l wd).length = nbytes (n * wd) := by rw [putSpec_length, Hlen.out]
  rw [Hparts.out, hlp] at e7 s7
  have Hlp := Lib.hid hlp
  obtain ⟨M, hM⟩ : ∃ M, M = nbytes (n * wd) := ⟨_, rfl⟩
  rw [← hM] at e7 s7
  have HM := Lib.hid hM
  clear hlp hM hb1 hbe
  have hl2 := hl.keep B2
  go_wp2_with fail
  refine (put_ok none 0 0 [] A n c l wd w2 (Sl.none_ _) hl2 Hb.out hwd (by omega)).mono ?_
  rintro e w3 ⟨Ab, Mb, cb, rfl, sb, hb3⟩
  rw [List.nil_append] at sb
  have hMb : Mb = M := by rw [HM.out, ← sb.len, nats_length, Hlp.out]
  subst hMb
  have s7' := s7.keep hb3
  have B3 := below_trans' B2 hb3
  clear B2 hb3 s7 hl2
  have hget1 := fun W (h : Sl W Ab Mb cb (nats .u8 (putSpec l wd))) => get_ok Ab Mb cb (putSpec l wd) q (n - k) wd W h (fun b hb => bytesOf_lt _ _ b hb) hwd (by omega) (by rw [Hbf2.out, HM.out, Hnb.out, Hq.out]; omega) (by rw [HM.out, Hnb.out, Hq.out]; omega)
  have hget2 := fun W (h : Sl W Ab Mb cb (nats .u8 (putSpec l wd))) => get_ok Ab Mb cb (putSpec l wd) 0 n wd W h (fun b hb => bytesOf_lt _ _ b hb) hwd (by omega) (by rw [Hbf.out, HM.out]; omega) (by omega)
  have Hget1 := Lib.hid hget1
  have Hget2 := Lib.hid hget2
  clear hget1 hget2
  go_wp2_with fail
  rw [show ((n : Int) - (k : Int)) = ((n - k : Nat) : Int) from by omega]
  refine (Hget1.out _ sb).mono ?_
  rintro e w4 ⟨Ax, cx, rfl, sx, hb4⟩
  have sb4 := sb.keep hb4
  have s74 := s7'.keep hb4
  have B4 := below_trans' B3 hb4
  generalize bytesF ((n - k : Nat) : Int) (wd : Int) = z1
  clear sb s7' B3 hb4
  go_wp2_with fail
  refine (Hget2.out _ sb4).mono ?_
  rintro e w5 ⟨Ay, cy, rfl, sy, hb5⟩
  have sx5 := sx.keep hb5
  have sb5 := sb4.keep hb5
  have s75 := s74.keep hb5
  have B5 := below_trans' B4 hb5
  generalize bytesF (n : Int) (wd : Int) = z2
  clear sb4 s74 B4 hb5 sx
  have k1 := run_convert_sl (P := Try.prog) Try.underlying22 Try.underlying5 Try.underlying9 s75
  have k2 := run_convert_sl (P := Try.prog) Try.underlying22 Try.underlying5 Try.underlying9 sb5
  generalize strOf (putSpec l wd) = str at k1 k2
  have hdrop := sy.drop k hkn
  rw [nats, ← List.map_drop] at hdrop
  have hgp := Hgets.out (putSpec l wd)
  rw [← Hq.out] at hgp
  rw [hgp] at sx5
  have hmax := sy.max
  have hcy := sy.le
  unfold maxLen at hmax
  have Hdrop := Lib.hid hdrop
  have Hsx := Lib.hid sx5
  clear hdrop sx5 hgp sb5 s75 sy
  have hslice := run_slice_lo (P := Try.prog) (w := w5) Try.underlying23 hi hz1 Ay n cy k hkn hcy (by unfold maxLen; omega)
  go_wp2_with fail
  refine (same_yes Ax (dropA Ay cy k) (n - k) cx (cy - k) _ w5 Hsx.out Hdrop.out (by omega)).mono ?_
  rintro e w6 ⟨rfl, hb6⟩
  go_wp2_with fail
  go_ret
  exact ⟨rfl, below_trans' B5 hb6⟩
end Go.Proofs.Ytepkboilfgmkkaa
