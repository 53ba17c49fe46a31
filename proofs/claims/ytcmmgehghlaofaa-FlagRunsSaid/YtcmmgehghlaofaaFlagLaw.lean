/- The laws of layer 7: the walks. -/
import Derived.Test.YtcmmgehghlaofaaFlagTop
namespace Go.Proofs.Ytcmmgehghlaofaa
open Go.RowKit
open PackMath
set_option linter.unusedVariables false

theorem fillb_step (n i : Nat) (c : Bool) (hi : i < n) : (List.replicate i c ++ List.replicate (n - i) false).set i c = List.replicate (i + 1) c ++ List.replicate (n - (i + 1)) false := by
  rw [List.set_append_right _ _ (by simp), List.length_replicate, Nat.sub_self, show n - i = n - (i + 1) + 1 from by omega, List.replicate_succ, List.set_cons_zero, List.replicate_succ', List.append_assoc]
  rfl

set_option maxHeartbeats 3200000 in
set_option maxRecDepth 4000 in
theorem law_FlagRuns (on : Bool) (n0 : Int) (w : World) (hn0 : -9223372036854775808 ≤ n0 ∧ n0 ≤ 9223372036854775807) :
    Calls Try.prog 10 #[.bool on, .int .i64 n0] w fun e w' => e = .returned (.bool true) ∧ Below w.heap.size w w' := by
  by_cases hneg : n0 < 0
  · go_enter Try.func10, Try.ntmps10
    go_wp2_with fail
    refine (known7 _).mono ?_
    rintro e w1 ⟨rfl, hb1⟩
    go_wp2_with fail
    go_ret
    exact ⟨rfl, hb1⟩
  · obtain ⟨n, rfl⟩ : ∃ n : Nat, n0 = (n : Int) := ⟨n0.toNat, by omega⟩
    by_cases hn : n ≤ 16384
    · obtain ⟨i0, hi, hz0, hz1, hz2⟩ := info_parts Try.info4
      clear hn0 hneg
      go_enter Try.func10, Try.ntmps10
      go_wp2_with fail
      refine (known7 _).mono ?_
      rintro e w1 ⟨rfl, hb1⟩
      go_wp2_with (at_make; refine wpList_make_full _ rfl _ _ 40 rfl w1.heap.size 4 i0 (.bool false) 1 Try.underlying40 hi hz0 hz1 .i64 .i64 _ _ n rfl rfl rfl rfl ?b2 ?b3 (Nat.le_refl _) ?_)
      case b2 => rw [hz2]; omega
      case b3 => unfold maxLen; omega
      intro w2 hown hgrow
      rw [toList_madeCells_one, show List.replicate n (Value.bool false) = bools (List.replicate 0 on ++ List.replicate (n - 0) false) from by simp [bools]] at hown
      have hb2 : Below w1.heap.size w1 w2 := (Below.refl _ _).grown hgrow (Nat.le_refl _) (fun k hk => by cases hk)
      have Hown := Lib.hid hown
      clear hown hgrow
      go_wp2_with fail
      go_loopw [6] (fun iv wr => ∃ i : Nat, i ≤ n ∧ iv = .int .i64 (i : Int) ∧ Hid (wr.ownsRow w1.heap.size 4 1 (.slice (some ⟨w1.heap.size, 0, none⟩) n n) n (bools (List.replicate i on ++ List.replicate (n - i) false))) ∧ Below w1.heap.size w1 wr) (fun iv _ => n - (intOf iv).toNat)
      case atStart => exact ⟨0, Nat.zero_le _, rfl, Hown.out, hb2⟩
      case round =>
        obtain ⟨i, hi', rfl, Ho, hb⟩ := hrel
        by_cases hlt : i < n
        · obtain ⟨u, hcu⟩ : ∃ u, wr.cell? ⟨w1.heap.size, i, none⟩ = some u := by
            have h1 := Ho.out.cellAt i (by omega)
            rw [List.getElem?_eq_getElem (by rw [bools_length, List.length_append, List.length_replicate, List.length_replicate]; omega)] at h1
            exact ⟨_, h1⟩
          have hfu : wr.frozen? ⟨w1.heap.size, i, none⟩ = false := Ho.out.frozenAt i
          have h1 := (Ho.out.stored i (.bool on)).1
          rw [bools_set, fillb_step n i on hlt] at h1
          have H1 := Lib.hid h1
          have hb' := hb.setCell (p := ⟨w1.heap.size, i, none⟩) (Nat.le_refl _) (.bool on)
          clear h1
          go_wp2_with fail
          exact ⟨⟨i + 1, by omega, by go_num, H1.out, hb'⟩, by simp only [intOf]; omega⟩
        · obtain rfl : i = n := by omega
          have hs := Sl.of_own_at Ho.out (bools_one _)
          rw [Nat.sub_self, List.replicate_zero, List.append_nil] at hs
          have Hs := Lib.hid hs
          have Henc := Lib.hid (fenc_p _ _ _ _ wr hs (by omega))
          have hcnt := cntS_same on i
          clear hs
          go_wp2_with fail
          refine Henc.out.mono ?_
          rintro e w3 ⟨A3, m3, rfl, hs3, hb3⟩
          have Hdec := Lib.hid (fdec_p A3 m3 m3 (List.replicate i on) i w3 hs3 (by simp) (by omega))
          go_wp2_with fail
          refine Hdec.out.mono ?_
          rintro e w4 ⟨A4, rfl, hs4, hb4⟩
          have hs5 := Hs.out.keep (below_trans' hb3 hb4)
          have Hsame := Lib.hid (sameb_yes _ _ _ _ _ _ w4 hs4 hs5 (by omega))
          have Hc := Lib.hid (fun W h => count_p (some ⟨w1.heap.size, 0, none⟩) i i (List.replicate i on) W h (by omega))
          rw [hcnt] at Hc
          have Hs5 := Lib.hid hs5
          have HB := Lib.hid (below_trans' hb1 (below_trans' hb (below_trans' hb3 hb4)))
          clear hs3 hs4 hs5 hb1 hb2 hb hb3 hb4 hcnt
          cases on with
          | true =>
            rw [if_pos rfl] at Hc
            go_wp2_with fail
            refine Hsame.out.mono ?_
            rintro e w5 ⟨rfl, hb5⟩
            go_wp2_with fail
            refine (Hc.out _ (Hs5.out.keep hb5)).mono ?_
            rintro e w6 ⟨rfl, hb6⟩
            go_wp2_with fail
            go_ret
            exact ⟨by first | rfl | simp, below_trans' HB.out (below_trans' hb5 hb6)⟩
          | false =>
            rw [if_neg (by decide)] at Hc
            go_wp2_with fail
            refine Hsame.out.mono ?_
            rintro e w5 ⟨rfl, hb5⟩
            go_wp2_with fail
            refine (Hc.out _ (Hs5.out.keep hb5)).mono ?_
            rintro e w6 ⟨rfl, hb6⟩
            go_wp2_with fail
            go_ret
            exact ⟨by first | rfl | simp, below_trans' HB.out (below_trans' hb5 hb6)⟩
    · go_enter Try.func10, Try.ntmps10
      go_wp2_with fail
      refine (known7 _).mono ?_
      rintro e w1 ⟨rfl, hb1⟩
      go_wp2_with fail
      go_ret
      exact ⟨rfl, hb1⟩

set_option maxHeartbeats 3200000 in
set_option maxRecDepth 8000 in
theorem law_FlagBack (A : Option Addr) (n c : Nat) (l : List Bool) (w : World) (hs : Sl w A n c (bools l)) :
    Calls Try.prog 8 #[.slice A n c] w fun e w' => e = .returned (.bool true) ∧ Below w.heap.size w w' := by
  have hle := hs.le
  have hmax := hs.max
  unfold maxLen at hmax
  have hlen := hs.len
  rw [bools_length] at hlen
  have Hs := Lib.hid hs
  have Hlen := Lib.hid hlen
  clear hs hlen
  by_cases hn : n ≤ 2000
  · obtain ⟨N, hN⟩ : ∃ N, N = nbytes n := ⟨_, rfl⟩
    have hN3 : N ≤ 3000 := by rw [hN]; unfold nbytes; omega
    have HN := Lib.hid hN
    have Hun := Lib.hid (fun A1 W h => unp_ok A1 N N (packS l) n W h (packS_lt l) (by omega) hN (fun h0 => by rw [hN, ← Hlen.out]; exact pack_fill l (l.length % 8) rfl (by rw [Hlen.out]; exact h0)))
    rw [show unpS (packS l) n = l from by rw [← Hlen.out]; exact unp_pack l] at Hun
    clear hN
    go_enter Try.func8, Try.ntmps8
    go_wp2_with fail
    refine (known7 _).mono ?_
    rintro e w1 ⟨rfl, hb1⟩
    have Hp := Lib.hid (fpack_p A n c l w1 (Hs.out.keep hb1) (by omega))
    rw [← HN.out] at Hp
    go_wp2_with fail
    refine Hp.out.mono ?_
    rintro e w2 ⟨A2, rfl, hs2, hb2⟩
    go_wp2_with fail
    refine (Hun.out _ _ hs2).mono ?_
    rintro e w3 ⟨A3, rfl, hs3, hb3⟩
    have B3 := below_trans' hb1 (below_trans' hb2 hb3)
    go_wp2_with fail
    refine (fenc_p A n c l w3 (Hs.out.keep B3) (by omega)).mono ?_
    rintro e w4 ⟨A4, m4, rfl, hs4, hb4⟩
    go_wp2_with fail
    refine (rdec7_p A4 m4 m4 l n w4 hs4 Hlen.out (by omega)).mono ?_
    rintro e w5 ⟨A5, c5, rfl, hs5, hb5⟩
    go_wp2_with fail
    refine (fdec_p A4 m4 m4 l n w5 (hs4.keep hb5) Hlen.out (by omega)).mono ?_
    rintro e w6 ⟨A6, rfl, hs6, hb6⟩
    have B36 := below_trans' hb4 (below_trans' hb5 hb6)
    have B6 := below_trans' B3 B36
    have Sp := Lib.hid (hs2.keep (below_trans' hb3 B36))
    have S4 := Lib.hid (hs3.keep B36)
    have S7 := Lib.hid (hs5.keep hb6)
    have S9 := Lib.hid hs6
    have Sl0 := Lib.hid (Hs.out.keep B6)
    have HB := Lib.hid B6
    clear hs2 hs3 hs4 hs5 hs6 hb1 hb2 hb3 hb4 hb5 hb6 B3 B36 B6
    go_wp2_with fail
    go_loopw [11, 12] (fun nv iv wq => ∃ (i q : Nat), i ≤ n ∧ iv = .int .i64 (i : Int) ∧ nv = .int .i64 (q : Int) ∧ Hid (cntS (l.take i) = q) ∧ wq = w6) (fun _ iv _ => n - (intOf iv).toNat)
    case atStart => exact ⟨0, 0, Nat.zero_le _, rfl, rfl, rfl, by first | rfl | trivial⟩
    case round =>
      obtain ⟨i, q, hi', rfl, rfl, Hq, hwq⟩ := hrel
      subst hwq
      have hqle := cntS_le (l.take i)
      rw [Hq.out, List.length_take] at hqle
      by_cases hlt : i < n
      · obtain ⟨b, off, rfl, _, hcell⟩ := Sl0.out.at_ (by omega)
        have hcb := hcell i hlt
        rw [bools_getD _ _ (by have := Hlen.out; omega)] at hcb
        have hnx := cntS_next l i (by have := Hlen.out; omega)
        rw [Hq.out] at hnx
        clear hcell
        cases hv : l.getD i false with
        | true =>
          rw [hv] at hcb hnx
          have Hnx := Lib.hid hnx
          clear hv hnx
          go_wp2_with fail
          exact ⟨⟨i + 1, q + 1, by omega, by go_num, by go_num, Hnx.out, by first | rfl | trivial⟩, by simp only [intOf]; omega⟩
        | false =>
          rw [hv] at hcb hnx
          have Hnx := Lib.hid hnx
          clear hv hnx
          go_wp2_with fail
          exact ⟨⟨i + 1, q, by omega, by go_num, by first | rfl | trivial, Hnx.out, by first | rfl | trivial⟩, by simp only [intOf]; omega⟩
      · have hin : i = n := by omega
        have hq : q = cntS l := by rw [← Hq.out, List.take_of_length_le (by have := Hlen.out; omega)]
        subst hq
        clear hin hqle
        go_wp2_with fail
        refine region_all _ [Fact.sl N (nats .u8 (packS l)), Fact.is (.string (strOf (packS l))), Fact.sl n (bools l), Fact.sl N (nats .u8 (packS l)), Fact.is (.string (strOf (packS l))), Fact.is (.bool true), Fact.is (.bool true), Fact.is (.int .i64 0), Fact.is (.int .i64 0), Fact.is (.int .i64 0), Fact.is (.bool true), Fact.is (.bool true), Fact.is (.bool true), Fact.is (.int .i64 0), Fact.is (.bool true), Fact.is (.bool true), Fact.is (.bool true), Fact.sl n (bools l), Fact.sl n (bools l), Fact.is (.bool true), Fact.is (.bool true), Fact.is (.bool true), Fact.sl n (bools l), Fact.sl n (bools l), Fact.is (.bool true), Fact.is (.bool true), Fact.is (.bool true), Fact.sl n (bools l), Fact.sl n (bools l), Fact.is (.bool true), Fact.is (.bool true), Fact.is (.bool true), Fact.sl n (bools l), Fact.is (.int .i64 ((cntS l : Nat) : Int)), Fact.is (.int .i64 ((cntS l : Nat) : Int)), Fact.is (.bool true), Fact.is (.bool true), Fact.is (.bool true)] [[(3, none)], [(55, some 0)], [(0, none)], [(57, some 2)], [(58, some 3)], [(56, some 1), (59, some 4)], [(60, some 5)], [(5, none)], [(10, none)], [(62, some 7), (63, some 8)], [(64, some 9)], [(61, some 6), (65, some 10)], [(66, some 11)], [(8, none)], [(68, some 13)], [(67, some 12), (69, some 14)], [(70, some 15)], [(4, none)], [(0, none)], [(72, some 17), (73, some 18)], [(71, some 16), (74, some 19)], [(75, some 20)], [(7, none)], [(0, none)], [(77, some 22), (78, some 23)], [(76, some 21), (79, some 24)], [(80, some 25)], [(9, none)], [(0, none)], [(82, some 27), (83, some 28)], [(81, some 26), (84, some 29)], [(85, some 30)], [(0, none)], [(87, some 32)], [(11, none)], [(88, some 33), (89, some 34)], [(86, some 31), (90, some 35)], [(91, some 36)]] [true, true, true, true, true, true, true, true, true, true, true, true, true, true, true, true, true, true, true, true, true, true, true, true, true, true, true, true, true, true, true, true, true, true, true, true, true, true] (by kernel_rfl) (by kernel_rfl) ⟨⟨?_, ?_⟩, ⟨?_, ?_⟩, ⟨?_, ?_⟩, ⟨?_, ?_⟩, ⟨?_, ?_⟩, ⟨?_, ?_⟩, ⟨?_, ?_⟩, ⟨?_, ?_⟩, ⟨?_, ?_⟩, ⟨?_, ?_⟩, ⟨?_, ?_⟩, ⟨?_, ?_⟩, ⟨?_, ?_⟩, ⟨?_, ?_⟩, ⟨?_, ?_⟩, ⟨?_, ?_⟩, ⟨?_, ?_⟩, ⟨?_, ?_⟩, ⟨?_, ?_⟩, ⟨?_, ?_⟩, ⟨?_, ?_⟩, ⟨?_, ?_⟩, ⟨?_, ?_⟩, ⟨?_, ?_⟩, ⟨?_, ?_⟩, ⟨?_, ?_⟩, ⟨?_, ?_⟩, ⟨?_, ?_⟩, ⟨?_, ?_⟩, ⟨?_, ?_⟩, ⟨?_, ?_⟩, ⟨?_, ?_⟩, ⟨?_, ?_⟩, ⟨?_, ?_⟩, ⟨?_, ?_⟩, ⟨?_, ?_⟩, ⟨?_, ?_⟩, ⟨?_, ?_⟩, trivial⟩ ?_
        · intro ρ w' hc hB h3
          refine chain_run rfl ?_
          exact opk_move rfl ⟨Below.refl _ _, ⟨_, _, h3, (Sp.out).keep hB⟩⟩
        · exact rfl
        · intro ρ w' hc hB h55
          refine chain_run rfl ?_
          obtain ⟨A_, c_, e_, s_⟩ := h55
          exact opk_str rfl Try.underlying22 Try.underlying5 Try.underlying9 e_ s_ ⟨Below.refl _ _, rfl⟩
        · exact rfl
        · intro ρ w' hc hB h0
          refine chain_run rfl ?_
          exact opk_move rfl ⟨Below.refl _ _, ⟨_, _, h0, (Sl0.out).keep hB⟩⟩
        · exact rfl
        · intro ρ w' hc hB h57
          refine chain_run rfl ?_
          obtain ⟨A_, c_, e_, s_⟩ := h57
          refine opk_call rfl hc Try.func33 (by kernel_rfl) (by kernel_rfl) ?_
          rw [show (#[Operand.tmp 57] : Array Operand).map ρ = #[.slice A_ n c_] from by simp [e_]]
          refine (rpack_p A_ n c_ l w' s_ (by omega)).mono ?_
          rintro e w2 ⟨A3, rfl, hs3, hb3⟩
          rw [← HN.out] at hs3 ⊢
          exact ⟨_, rfl, hb3, _, _, rfl, hs3⟩
        · exact rfl
        · intro ρ w' hc hB h58
          refine chain_run rfl ?_
          obtain ⟨A_, c_, e_, s_⟩ := h58
          exact opk_str rfl Try.underlying22 Try.underlying5 Try.underlying9 e_ s_ ⟨Below.refl _ _, rfl⟩
        · exact rfl
        · intro ρ w' hc hB h56 h59
          refine chain_run rfl ?_
          exact opk_eql_string rfl h56 h59 ⟨Below.refl _ _, congrArg Value.bool (by simp)⟩
        · exact rfl
        · intro ρ w' hc hB h60
          refine chain_run rfl ?_
          exact opk_move rfl ⟨Below.refl _ _, h60⟩
        · exact rfl
        · intro ρ w' hc hB h5
          refine chain_run rfl ?_
          exact opk_move rfl ⟨Below.refl _ _, h5⟩
        · exact fun v w h => ⟨true, h, rfl⟩
        · intro ρ w' hc hB h10
          refine chain_run rfl ?_
          exact opk_move rfl ⟨Below.refl _ _, h10⟩
        · exact fun v w h => ⟨true, h, rfl⟩
        · intro ρ w' hc hB h62 h63
          refine chain_run rfl ?_
          exact opk_add_i64 rfl h62 h63 (by omega) ⟨Below.refl _ _, congrArg (Value.int .i64) (by omega)⟩
        · exact fun v w h => ⟨true, h, rfl⟩
        · intro ρ w' hc hB h64
          refine chain_run rfl ?_
          exact opk_eql_int rfl h64 (hc.1 _) ⟨Below.refl _ _, congrArg Value.bool (by simp)⟩
        · exact fun v w h => ⟨true, h, rfl⟩
        · intro ρ w' hc hB h61 h65
          refine chain_run rfl ?_
          exact opk_pick rfl h61 ⟨Below.refl _ _, h65⟩
        · exact rfl
        · intro ρ w' hc hB h66
          refine chain_run rfl ?_
          exact opk_move rfl ⟨Below.refl _ _, h66⟩
        · exact rfl
        · intro ρ w' hc hB h8
          refine chain_run rfl ?_
          exact opk_move rfl ⟨Below.refl _ _, h8⟩
        · exact fun v w h => ⟨true, h, rfl⟩
        · intro ρ w' hc hB h68
          refine chain_run rfl ?_
          exact opk_eql_int rfl h68 (hc.1 _) ⟨Below.refl _ _, congrArg Value.bool (by simp)⟩
        · exact fun v w h => ⟨true, h, rfl⟩
        · intro ρ w' hc hB h67 h69
          refine chain_run rfl ?_
          exact opk_pick rfl h67 ⟨Below.refl _ _, h69⟩
        · exact rfl
        · intro ρ w' hc hB h70
          refine chain_run rfl ?_
          exact opk_move rfl ⟨Below.refl _ _, h70⟩
        · exact rfl
        · intro ρ w' hc hB h4
          refine chain_run rfl ?_
          exact opk_move rfl ⟨Below.refl _ _, ⟨_, _, h4, (S4.out).keep hB⟩⟩
        · exact fun v w h => ⟨true, h, rfl⟩
        · intro ρ w' hc hB h0
          refine chain_run rfl ?_
          exact opk_move rfl ⟨Below.refl _ _, ⟨_, _, h0, (Sl0.out).keep hB⟩⟩
        · exact fun v w h => ⟨true, h, rfl⟩
        · intro ρ w' hc hB h72 h73
          refine chain_run rfl ?_
          obtain ⟨A_, c_, e_, s_⟩ := h72
          obtain ⟨B_, d_, f_, r_⟩ := h73
          refine opk_call rfl hc Try.func34 (by kernel_rfl) (by kernel_rfl) ?_
          rw [show (#[Operand.tmp 72, Operand.tmp 73] : Array Operand).map ρ = #[.slice A_ n c_, .slice B_ n d_] from by simp [e_, f_]]
          refine (sameb_yes A_ B_ n c_ d_ l w' s_ r_ (by omega)).mono ?_
          rintro e w2 ⟨rfl, hb2⟩
          exact ⟨_, rfl, hb2, rfl⟩
        · exact fun v w h => ⟨true, h, rfl⟩
        · intro ρ w' hc hB h71 h74
          refine chain_run rfl ?_
          exact opk_pick rfl h71 ⟨Below.refl _ _, h74⟩
        · exact rfl
        · intro ρ w' hc hB h75
          refine chain_run rfl ?_
          exact opk_move rfl ⟨Below.refl _ _, h75⟩
        · exact rfl
        · intro ρ w' hc hB h7
          refine chain_run rfl ?_
          exact opk_move rfl ⟨Below.refl _ _, ⟨_, _, h7, (S7.out).keep hB⟩⟩
        · exact fun v w h => ⟨true, h, rfl⟩
        · intro ρ w' hc hB h0
          refine chain_run rfl ?_
          exact opk_move rfl ⟨Below.refl _ _, ⟨_, _, h0, (Sl0.out).keep hB⟩⟩
        · exact fun v w h => ⟨true, h, rfl⟩
        · intro ρ w' hc hB h77 h78
          refine chain_run rfl ?_
          obtain ⟨A_, c_, e_, s_⟩ := h77
          obtain ⟨B_, d_, f_, r_⟩ := h78
          refine opk_call rfl hc Try.func34 (by kernel_rfl) (by kernel_rfl) ?_
          rw [show (#[Operand.tmp 77, Operand.tmp 78] : Array Operand).map ρ = #[.slice A_ n c_, .slice B_ n d_] from by simp [e_, f_]]
          refine (sameb_yes A_ B_ n c_ d_ l w' s_ r_ (by omega)).mono ?_
          rintro e w2 ⟨rfl, hb2⟩
          exact ⟨_, rfl, hb2, rfl⟩
        · exact fun v w h => ⟨true, h, rfl⟩
        · intro ρ w' hc hB h76 h79
          refine chain_run rfl ?_
          exact opk_pick rfl h76 ⟨Below.refl _ _, h79⟩
        · exact rfl
        · intro ρ w' hc hB h80
          refine chain_run rfl ?_
          exact opk_move rfl ⟨Below.refl _ _, h80⟩
        · exact rfl
        · intro ρ w' hc hB h9
          refine chain_run rfl ?_
          exact opk_move rfl ⟨Below.refl _ _, ⟨_, _, h9, (S9.out).keep hB⟩⟩
        · exact fun v w h => ⟨true, h, rfl⟩
        · intro ρ w' hc hB h0
          refine chain_run rfl ?_
          exact opk_move rfl ⟨Below.refl _ _, ⟨_, _, h0, (Sl0.out).keep hB⟩⟩
        · exact fun v w h => ⟨true, h, rfl⟩
        · intro ρ w' hc hB h82 h83
          refine chain_run rfl ?_
          obtain ⟨A_, c_, e_, s_⟩ := h82
          obtain ⟨B_, d_, f_, r_⟩ := h83
          refine opk_call rfl hc Try.func34 (by kernel_rfl) (by kernel_rfl) ?_
          rw [show (#[Operand.tmp 82, Operand.tmp 83] : Array Operand).map ρ = #[.slice A_ n c_, .slice B_ n d_] from by simp [e_, f_]]
          refine (sameb_yes A_ B_ n c_ d_ l w' s_ r_ (by omega)).mono ?_
          rintro e w2 ⟨rfl, hb2⟩
          exact ⟨_, rfl, hb2, rfl⟩
        · exact fun v w h => ⟨true, h, rfl⟩
        · intro ρ w' hc hB h81 h84
          refine chain_run rfl ?_
          exact opk_pick rfl h81 ⟨Below.refl _ _, h84⟩
        · exact rfl
        · intro ρ w' hc hB h85
          refine chain_run rfl ?_
          exact opk_move rfl ⟨Below.refl _ _, h85⟩
        · exact rfl
        · intro ρ w' hc hB h0
          refine chain_run rfl ?_
          exact opk_move rfl ⟨Below.refl _ _, ⟨_, _, h0, (Sl0.out).keep hB⟩⟩
        · exact fun v w h => ⟨true, h, rfl⟩
        · intro ρ w' hc hB h87
          refine chain_run rfl ?_
          obtain ⟨A_, c_, e_, s_⟩ := h87
          refine opk_call rfl hc Try.func35 (by kernel_rfl) (by kernel_rfl) ?_
          rw [show (#[Operand.tmp 87] : Array Operand).map ρ = #[.slice A_ n c_] from by simp [e_]]
          refine (count_p A_ n c_ l w' s_ (by omega)).mono ?_
          rintro e w2 ⟨rfl, hb2⟩
          exact ⟨_, rfl, hb2, rfl⟩
        · exact fun v w h => ⟨true, h, rfl⟩
        · intro ρ w' hc hB h11
          refine chain_run rfl ?_
          exact opk_move rfl ⟨Below.refl _ _, h11⟩
        · exact fun v w h => ⟨true, h, rfl⟩
        · intro ρ w' hc hB h88 h89
          refine chain_run rfl ?_
          exact opk_eql_int rfl h88 h89 ⟨Below.refl _ _, congrArg Value.bool (by simp)⟩
        · exact fun v w h => ⟨true, h, rfl⟩
        · intro ρ w' hc hB h86 h90
          refine chain_run rfl ?_
          exact opk_pick rfl h86 ⟨Below.refl _ _, h90⟩
        · exact rfl
        · intro ρ w' hc hB h91
          refine chain_run rfl ?_
          exact opk_assign rfl ⟨Below.refl _ _, h91⟩
        · exact rfl
        intro a' w7 hbe hsz hd hF hU
        have h5 : a'.tmps.getD 2 undef = .bool true := hF 37 _ 2 rfl rfl
        go_wp2_with fail
        refine bodyPost_ret (results_tmp rfl _ _ _) hd ?_
        rw [h5]
        exact ⟨rfl, below_trans' HB.out hbe⟩
  · go_enter Try.func8, Try.ntmps8
    go_wp2_with fail
    refine (known7 _).mono ?_
    rintro e w1 ⟨rfl, hb1⟩
    go_wp2_with fail
    go_ret
    exact ⟨rfl, hb1⟩
end Go.Proofs.Ytcmmgehghlaofaa
