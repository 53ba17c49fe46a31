/- The reference's Unpack; Encode and Decode of runs of bits; known. -/
import Derived.Test.YtcmmgehghlaofaaFlagCnt
import Derived.Test.YtcmmgehghlaofaaBrleLaw
namespace Go.Proofs.Ytcmmgehghlaofaa
open Go.RowKit
open PackMath
set_option linter.unusedVariables false

theorem bit_test_u8 (x k : Nat) (hx : x < 256) : (bits .and .u8 ((x : Int) / 2 ^ k) 1 == 1) = x.testBit k := by
  have h1 : x / 2 ^ k ≤ x := Nat.div_le_self _ _
  rw [div_pow_cast, show (1 : Int) = ((1 : Nat) : Int) from rfl, bits_and_u8 _ _ (by omega) (by decide), Nat.and_one_is_mod, Nat.testBit_eq_decide_div_mod_eq]
  generalize x / 2 ^ k % 2 = z
  by_cases hz : z = 1
  · subst hz; rfl
  · rw [decide_eq_false hz, beq_eq_false_iff_ne]; omega

set_option maxHeartbeats 1600000 in
set_option maxRecDepth 4000 in
theorem runp_ok (A : Option Addr) (n c : Nat) (l : List Bool) (k : Nat) (w : World) (hs : Sl w A n c (nats .u8 (packS l))) (hk : k ≤ 16384) (hl : l.length = k) :
    Calls Try.prog 68 #[.slice A n c, .int .i64 (k : Int)] w fun e w' => ∃ A' c', e = .returned (.tuple #[.slice A' k c', .int .i64 0]) ∧ Sl w' A' k c' (bools l) ∧ Below w.heap.size w w' := by
  have hle := hs.le
  have hmax := hs.max
  unfold maxLen at hmax
  have hlen := hs.len
  rw [nats_length] at hlen
  have hn : n = nbytes k := by rw [← hlen, packS_length, hl]
  have hn' : n ≤ 3000 ∧ k ≤ 8 * n := by rw [hn]; unfold nbytes; omega
  obtain ⟨hn1, hn2⟩ := hn'
  have hq : ((k : Int) + 7) / 8 = (n : Int) := by rw [hn]; unfold nbytes; omega
  have hun : unpS (packS l) k = l := by rw [← hl]; exact unp_pack l
  obtain ⟨i0, hi, hz0, hz1, hz2⟩ := info_parts Try.info4
  have Hs := Lib.hid hs
  have Hlen := Lib.hid hlen
  have Hn := Lib.hid hn
  have Hun := Lib.hid hun
  have Hb8 := Lib.hid (packS_lt l)
  obtain ⟨bs, hbs⟩ : ∃ bs, bs = packS l := ⟨_, rfl⟩
  have Hbs := Lib.hid hbs
  clear hs hlen hn hun hbs hl
  go_enter Try.func68, Try.ntmps68
  go_wp2_with fail
  clear hq
  go_loopw [6, 7] (fun ov iv wr => ∃ (i : Nat) (A' : Option Addr) (c' : Nat), i ≤ k ∧ iv = .int .i64 (i : Int) ∧ ov = .slice A' i c' ∧ Hid (wr.ownsRow w.heap.size 4 1 (.slice A' i c') i (bools (unpS (packS l) i))) ∧ Below w.heap.size w wr) (fun _ iv _ => k - (intOf iv).toNat)
  case atStart => exact ⟨0, none, 0, Nat.zero_le _, rfl, rfl, World.ownsRow_nil _ _ _ _, Below.refl _ _⟩
  case round =>
    obtain ⟨i, A', c', hi', rfl, rfl, Hown, hb⟩ := hrel
    by_cases hlt : i < k
    · obtain ⟨b, off, rfl, hbw, hcell⟩ := Hs.out.at_ (by omega)
      obtain ⟨j, hj⟩ : ∃ j, j = i / 8 := ⟨_, rfl⟩
      obtain ⟨m, hm⟩ : ∃ m, m = i % 8 := ⟨_, rfl⟩
      obtain ⟨p, hp⟩ : ∃ p, p = 7 - m := ⟨_, rfl⟩
      have hjI : (i : Int) / 8 = (j : Int) := by omega
      have hmI : (i : Int) % 8 = (m : Int) := by omega
      have hpI : 7 - (m : Int) = (p : Int) := by omega
      have hjn : j < n := by omega
      obtain ⟨y, hy⟩ : ∃ y, y = (packS l).getD j 0 := ⟨_, rfl⟩
      have hy8 : y < 256 := by rw [hy, getD_eq _ _ (by have := Hlen.out; omega)]; exact Hb8.out _ (List.getElem_mem _)
      have hcy : wr.cell? ⟨b, off + j, none⟩ = some (.int .u8 (y : Int)) := by
        rw [hb.cell (p := ⟨b, off + j, none⟩) hbw, hcell _ hjn, nats_getD _ _ _ (by have := Hlen.out; omega), hy]
      have hstep : unpS (packS l) (i + 1) = unpS (packS l) i ++ [(bits .and .u8 ((y : Int) / 2 ^ p) 1 == 1)] := by
        rw [unpS_succ, bit_test_u8 y p hy8]
        unfold bitAt
        rw [← hj, ← hm, ← hp, ← hy]
      have Hstep := Lib.hid hstep
      have hsz := hb.size
      clear hcell hstep hy hj hm hp
      go_wp2_with (at_builtin; refine wpList_append_sl rfl _ _ 40 rfl w.heap.size 4 i0 (.bool false) 1 Try.underlying40 hi hz0 hz1 hz2 rfl _ i _ rfl (Hown.out.alloc _) (some ⟨wr.heap.size, 0, none⟩) 1 1 _ rfl (Sl.one_new wr _ _ rfl) ?c1 ?c2 ?c3 ?_)
      case c1 => unfold maxLen; omega
      case c2 => omega
      case c3 => simp; omega
      intro v2 w2 ho2 hb2 _ _
      have H2 : Hid (w2.ownsRow w.heap.size 4 1 v2 (i + 1) (bools (unpS (packS l) (i + 1)))) := by
        rw [Hstep.out]
        have : bools (unpS (packS l) i ++ [(bits .and .u8 ((y : Int) / 2 ^ p) 1 == 1)]) = bools (unpS (packS l) i) ++ [.bool (bits .and .u8 ((y : Int) / 2 ^ p) 1 == 1)] := by simp [bools]
        rw [this]
        exact ho2
      obtain ⟨A2, c2, rfl, s2⟩ := Sl.of_own H2.out (bools_one _)
      have hb3 := (hb.alloc hsz _).trans hb2
      clear ho2 s2 hb2
      go_wp2_with fail
      exact ⟨⟨i + 1, A2, c2, by omega, by first | rfl | simp, by first | rfl | trivial, H2.out, hb3⟩, by simp only [intOf]; omega⟩
    · obtain rfl : k = i := by omega
      have Hso : Hid (Sl wr A' k c' (bools l)) := by
        obtain ⟨A3, c3, hv, hs3⟩ := Sl.of_own Hown.out (bools_one _)
        injection hv with e1 e2 e3
        subst e1 e3
        rw [Hun.out] at hs3
        exact hs3
      have Hsb := Lib.hid (Hs.out.keep hb)
      go_wp2_with fail
      refine region_all _ [Fact.sl k (bools l), Fact.sl n (nats .u8 (packS l)), Fact.is (.string (strOf (packS l))), Fact.sl n (nats .u8 (packS l)), Fact.is (.string (strOf (packS l))), Fact.is (.bool false)] [[(6, none)], [(40, some 0)], [(41, some 1)], [(0, none)], [(43, some 3)], [(42, some 2), (44, some 4)]] [true, true, true, true, true, true] (by kernel_rfl) (by kernel_rfl) ⟨⟨?_, ?_⟩, ⟨?_, ?_⟩, ⟨?_, ?_⟩, ⟨?_, ?_⟩, ⟨?_, ?_⟩, ⟨?_, ?_⟩, trivial⟩ ?_
      · intro ρ w' hc hB h6
        refine chain_run rfl ?_
        exact opk_move rfl ⟨Below.refl _ _, ⟨_, _, h6, (Hso.out).keep hB⟩⟩
      · exact rfl
      · intro ρ w' hc hB h40
        refine chain_run rfl ?_
        obtain ⟨A_, c_, e_, s_⟩ := h40
        refine opk_call rfl hc Try.func33 (by kernel_rfl) (by kernel_rfl) ?_
        rw [show (#[Operand.tmp 40] : Array Operand).map ρ = #[.slice A_ k c_] from by simp [e_]]
        refine (rpack_p A_ k c_ l w' s_ (by omega)).mono ?_
        rintro e w2 ⟨A3, rfl, hs3, hb3⟩
        rw [← Hn.out] at hs3 ⊢
        exact ⟨_, rfl, hb3, _, _, rfl, hs3⟩
      · exact rfl
      · intro ρ w' hc hB h41
        refine chain_run rfl ?_
        obtain ⟨A_, c_, e_, s_⟩ := h41
        exact opk_str rfl Try.underlying22 Try.underlying5 Try.underlying9 e_ s_ ⟨Below.refl _ _, rfl⟩
      · exact rfl
      · intro ρ w' hc hB h0
        refine chain_run rfl ?_
        exact opk_move rfl ⟨Below.refl _ _, ⟨_, _, h0, (Hsb.out).keep hB⟩⟩
      · exact rfl
      · intro ρ w' hc hB h43
        refine chain_run rfl ?_
        obtain ⟨A_, c_, e_, s_⟩ := h43
        exact opk_str rfl Try.underlying22 Try.underlying5 Try.underlying9 e_ s_ ⟨Below.refl _ _, rfl⟩
      · exact rfl
      · intro ρ w' hc hB h42 h44
        refine chain_run rfl ?_
        exact opk_neq_string rfl h42 h44 ⟨Below.refl _ _, congrArg Value.bool (by simp)⟩
      · exact rfl
      intro a' w5 hbe hsz hd hF hU
      have e45 := hF 5 _ 45 rfl rfl
      obtain ⟨fr, hfr, hlit⟩ := act_lit a' _ _ [40, 41, 42, 43, 44, 45] hsz hd (fun t ht => hU t (by
        intro i o ho hod
        have := List.mem_filterMap.2 ⟨o, List.mem_of_getElem? ho, hod⟩
        revert this
        exact fun h => ht (by simpa using h)))
      rw [← hfr] at e45
      have e45' : fr 45 = .bool false := e45
      rw [hlit]
      have hs5 := Lib.hid (Hso.out.keep hbe)
      have hb5 := below_trans' hb hbe
      clear hF hU hlit hfr hsz hd e45
      simp [List.range_succ, e45']
      go_wp2_with fail
      go_ret2
      exact ⟨_, _, rfl, hs5.out, hb5⟩

set_option maxHeartbeats 800000 in
theorem fenc_p (A : Option Addr) (n c : Nat) (l : List Bool) (w : World) (hs : Sl w A n c (bools l)) (hn : n ≤ 16384) :
    Calls Try.prog 30 #[.slice A n c] w fun e w' => ∃ A' m, e = .returned (.slice A' m m) ∧ Sl w' A' m m (nats .u8 (runsB (encS (packS l)))) ∧ Below w.heap.size w w' := by
  have hle := hs.le
  have hmax := hs.max
  unfold maxLen at hmax
  have hN : nbytes n ≤ 3000 := by unfold nbytes; omega
  have Hp := Lib.hid (fpack_p A n c l w hs (by omega))
  clear hs
  go_enter Try.func30, Try.ntmps30
  go_wp2_with fail
  refine Hp.out.mono ?_
  rintro e w1 ⟨A1, rfl, hs1, hb1⟩
  have He := Lib.hid (enc_p A1 _ _ (packS l) w1 hs1 (packS_lt l) (by omega))
  clear hs1
  generalize nbytes n = N at *
  go_wp2_with fail
  refine He.out.mono ?_
  rintro e w2 ⟨A2, m, rfl, hs2, hb2⟩
  have Hs2 := Lib.hid hs2
  clear hs2
  go_wp2_with fail
  go_ret
  exact ⟨_, _, rfl, Hs2.out, below_trans' hb1 hb2⟩

set_option maxHeartbeats 800000 in
set_option maxRecDepth 4000 in
theorem fdec_p (A : Option Addr) (n c : Nat) (l : List Bool) (k : Nat) (w : World) (hs : Sl w A n c (nats .u8 (runsB (encS (packS l))))) (hl : l.length = k) (hk : k ≤ 16384) :
    Calls Try.prog 32 #[.slice A n c, .int .i64 (k : Int)] w fun e w' => ∃ A', e = .returned (.tuple #[.slice A' k k, .int .i64 0]) ∧ Sl w' A' k k (bools l) ∧ Below w.heap.size w w' := by
  have hpl : (packS l).length = nbytes k := by rw [packS_length, hl]
  obtain ⟨N, hN⟩ : ∃ N, N = nbytes k := ⟨_, rfl⟩
  have hq : ((k : Int) + 7) / 8 = (N : Int) := by rw [hN]; unfold nbytes; omega
  have hN3 : N ≤ 3000 := by rw [hN]; unfold nbytes; omega
  have hd := dec_enc A n c (packS l) w hs (packS_lt l) (by rw [hpl, ← hN]; omega)
  rw [hpl, ← hN] at hd
  have hu := fun A1 W h => unp_ok A1 N N (packS l) k W h (packS_lt l) hk hN (fun h0 => by rw [hN, ← hl]; exact pack_fill l (l.length % 8) rfl (by rw [hl]; exact h0))
  rw [show unpS (packS l) k = l from by rw [← hl]; exact unp_pack l] at hu
  have Hd := Lib.hid hd
  have Hu := Lib.hid hu
  clear hs hpl hN hd hu hl
  go_enter Try.func32, Try.ntmps32
  go_wp2_with fail
  refine Hd.out.mono ?_
  rintro e w1 ⟨A1, rfl, hs1, hb1⟩
  go_wp2_with fail
  refine (Hu.out _ _ hs1).mono ?_
  rintro e w2 ⟨A2, rfl, hs2, hb2⟩
  have Hs2 := Lib.hid hs2
  clear hs1 hs2
  go_wp2_with fail
  go_ret2
  exact ⟨_, rfl, Hs2.out, below_trans' hb1 hb2⟩

set_option maxHeartbeats 800000 in
set_option maxRecDepth 4000 in
theorem rdec7_p (A : Option Addr) (n c : Nat) (l : List Bool) (k : Nat) (w : World) (hs : Sl w A n c (nats .u8 (runsB (encS (packS l))))) (hl : l.length = k) (hk : k ≤ 16384) :
    Calls Try.prog 31 #[.slice A n c, .int .i64 (k : Int)] w fun e w' => ∃ A' c', e = .returned (.tuple #[.slice A' k c', .int .i64 0]) ∧ Sl w' A' k c' (bools l) ∧ Below w.heap.size w w' := by
  have hpl : (packS l).length = nbytes k := by rw [packS_length, hl]
  obtain ⟨N, hN⟩ : ∃ N, N = nbytes k := ⟨_, rfl⟩
  have hq : ((k : Int) + 7) / 8 = (N : Int) := by rw [hN]; unfold nbytes; omega
  have hN3 : N ≤ 3000 := by rw [hN]; unfold nbytes; omega
  have hd := rdec_enc A n c (packS l) w hs (packS_lt l) (by rw [hpl, ← hN]; omega)
  rw [hpl, ← hN] at hd
  have hu := fun A1 c1 W h => runp_ok A1 N c1 l k W h hk hl
  have Hd := Lib.hid hd
  have Hu := Lib.hid hu
  clear hs hpl hN hd hu hl
  go_enter Try.func31, Try.ntmps31
  go_wp2_with fail
  refine Hd.out.mono ?_
  rintro e w1 ⟨A1, c1, rfl, hs1, hb1⟩
  go_wp2_with fail
  refine (Hu.out _ _ _ hs1).mono ?_
  rintro e w2 ⟨A2, c2, rfl, hs2, hb2⟩
  have Hs2 := Lib.hid hs2
  clear hs1 hs2
  go_wp2_with fail
  go_ret2
  exact ⟨_, _, rfl, Hs2.out, below_trans' hb1 hb2⟩

set_option maxHeartbeats 3200000 in
set_option maxRecDepth 4000 in
theorem known7 (w : World) : Calls Try.prog 27 #[] w fun e w' => e = .returned (.bool true) ∧ Below w.heap.size w w' := by
  have hl := fun (W : World) => Sl.lit W (bools [true, false, true]) 3 4 rfl (by decide) (bools_one _)
  have Hl := Lib.hid hl
  clear hl
  obtain ⟨w0, hw0⟩ : ∃ w0, w.alloc (.cells #[.bool true, .bool false, .bool true] 4) = w0 := ⟨_, rfl⟩
  have hb0 : Below w.heap.size w w0 := by rw [← hw0]; exact below_new w _
  have hs0 : Sl w0 (some ⟨w.heap.size, 0, none⟩) 3 3 (bools [true, false, true]) := by rw [← hw0]; exact Hl.out w
  have Hp := Lib.hid (fpack_p _ _ _ _ w0 hs0 (by decide))
  rw [show nbytes 3 = 1 from by decide] at Hp
  go_enter Try.func27, Try.ntmps27
  go_wp2_with fail
  clear hw0
  refine Hp.out.mono ?_
  rintro e w1 ⟨A1, rfl, hs1, hb1⟩
  rw [show packS [true, false, true] = [160] from by decide] at hs1
  go_wp2_with fail
  refine (unp_ok A1 1 1 [160] 3 w1 hs1 (by decide) (by decide) (by decide) (by decide)).mono ?_
  rw [show unpS [160] 3 = [true, false, true] from by decide]
  rintro e w2 ⟨A2, rfl, hs2, hb2⟩
  have B2 := below_trans' hb1 hb2
  go_wp2_with fail
  refine (fenc_p _ _ _ _ w2 (hs0.keep B2) (by decide)).mono ?_
  rintro e w3 ⟨A3, m3, rfl, hs3, hb3⟩
  go_wp2_with fail
  refine (fdec_p A3 m3 m3 [true, false, true] 3 w3 hs3 rfl (by decide)).mono ?_
  rintro e w4 ⟨A4, rfl, hs4, hb4⟩
  have B24 := below_trans' hb2 (below_trans' hb3 hb4)
  have B4 := below_trans' hb1 B24
  obtain ⟨b1, o1, rfl, _, hc1⟩ := (hs1.keep B24).at_ (by decide)
  obtain ⟨b2, o2, rfl, _, hc2⟩ := (hs2.keep (below_trans' hb3 hb4)).at_ (by decide)
  obtain ⟨b4, o4, rfl, _, hc4⟩ := hs4.at_ (by decide)
  have c1 : w4.cell? ⟨b1, o1, none⟩ = some (.int .u8 160) := hc1 0 (by decide)
  have c2 : w4.cell? ⟨b2, o2 + 2, none⟩ = some (.bool true) := hc2 2 (by decide)
  have c4 : w4.cell? ⟨b4, o4, none⟩ = some (.bool true) := hc4 0 (by decide)
  have Hcnt := Lib.hid (count_p _ _ _ _ w4 (hs0.keep B4) (by decide))
  have HB := Lib.hid (below_trans' hb0 B4)
  clear hs0 hs1 hs2 hs3 hs4 hc1 hc2 hc4 hb0 hb1 hb2 hb3 hb4 B2 B4 B24
  go_wp2_with fail
  refine Hcnt.out.mono ?_
  rintro e w5 ⟨rfl, hb5⟩
  rw [show cntS [true, false, true] = 2 from by decide]
  go_wp2_with fail
  go_ret
  exact ⟨by first | rfl | simp, below_trans' HB.out hb5⟩
end Go.Proofs.Ytcmmgehghlaofaa
