/- FlagFills: the walk. -/
import Derived.Test.YtcmmgehghlaofaaFlagLaw2
namespace Go.Proofs.Ytcmmgehghlaofaa
open Go.RowKit
open PackMath
set_option linter.unusedVariables false

set_option maxHeartbeats 3200000 in
set_option maxRecDepth 8000 in
theorem law_FlagFills (A : Option Addr) (n c : Nat) (l : List Bool) (bit0 x0 : Int) (w : World) (hs : Sl w A n c (bools l)) (hbit : -9223372036854775808 ≤ bit0 ∧ bit0 ≤ 9223372036854775807) (hx : 0 ≤ x0 ∧ x0 < 256) :
    Calls Try.prog 9 #[.slice A n c, .int .i64 bit0, .int .u8 x0] w fun e w' => e = .returned (.bool true) ∧ Below w.heap.size w w' := by
  have hle := hs.le
  have hmax := hs.max
  unfold maxLen at hmax
  have hlen := hs.len
  rw [bools_length] at hlen
  have Hs := Lib.hid hs
  have Hlen := Lib.hid hlen
  clear hs hlen
  by_cases hn : n ≤ 2000
  · by_cases hneg : bit0 < 0
    · go_enter Try.func9, Try.ntmps9
      go_wp2_with fail
      refine (known7 _).mono ?_
      rintro e w1 ⟨rfl, hb1⟩
      go_wp2_with fail
      go_ret
      exact ⟨rfl, hb1⟩
    · obtain ⟨bit, rfl⟩ : ∃ bit : Nat, bit0 = (bit : Int) := ⟨bit0.toNat, by omega⟩
      obtain ⟨i0, hi, hz0, hz1, hz2⟩ := info_parts Try.info5
      obtain ⟨N, hN⟩ : ∃ N, N = nbytes n := ⟨_, rfl⟩
      have hN3 : N ≤ 3000 := by rw [hN]; unfold nbytes; omega
      have hq : ((n : Int) + 7) / 8 = (N : Int) := by rw [hN]; unfold nbytes; omega
      obtain ⟨r, hr⟩ : ∃ r, r = n % 8 := ⟨_, rfl⟩
      have hr8 : (n : Int) % 8 = (r : Int) := by omega
      have hrlt : r < 8 := by omega
      have hN0 : 0 < r → 0 < N := fun h => by rw [hN]; unfold nbytes; omega
      have HN := Lib.hid hN
      have Hr := Lib.hid hr
      have hbm : (bit : Int) ≤ 9223372036854775807 := hbit.2
      clear hN hr hbit hneg
      go_enter Try.func9, Try.ntmps9
      go_wp2_with fail
      refine (known7 _).mono ?_
      rintro e w1 ⟨rfl, hb1⟩
      have Hp := Lib.hid (fpack_p A n c l w1 (Hs.out.keep hb1) (by omega))
      rw [← HN.out] at Hp
      go_wp2_with fail
      refine Hp.out.mono ?_
      rintro e w2 ⟨A2, rfl, hs2, hb2⟩
      have B2 := below_trans' hb1 hb2
      have hsa := hs2.keep (below_new w2 (.cells #[] 5))
      have ho2 : (w2.alloc (.cells #[] 5)).ownsRow w2.heap.size 5 1 (.slice (some ⟨w2.heap.size, 0, none⟩) 0 0) 0 [] := World.ownsRow_made w2 #[] 0 (Nat.le_refl _) (by decide) rfl
      have Hs2 := Lib.hid hs2
      clear hs2 hb1 hb2
      go_wp2_with (at_builtin; refine wpList_append_sl rfl (.tmp 35) (.tmp 36) 22 rfl w2.heap.size 5 i0 (.int .u8 0) 1 Try.underlying22 hi hz0 hz1 hz2 rfl _ 0 [] rfl ho2 _ N N _ rfl hsa ?c1 ?c2 ?c3 ?_)
      case c1 => unfold maxLen; omega
      case c2 => omega
      case c3 => simp
      intro v3 w3 ho3 hb3 _ _
      have hb23 := (below_new w2 (.cells #[] 5)).trans hb3
      have hsz3 := hb23.size
      have ho3a := ho3.alloc (.cells #[.int .u8 x0] 5)
      have hsx := Sl.one_new w3 (.int .u8 x0) 5 rfl
      clear ho2 hsa hb3
      go_wp2_with (at_builtin; refine wpList_append_sl rfl (.tmp 37) (.tmp 39) 22 rfl w2.heap.size 5 i0 (.int .u8 0) 1 Try.underlying22 hi hz0 hz1 hz2 rfl _ _ _ rfl ho3a _ 1 1 _ rfl hsx ?c1 ?c2 ?c3 ?_)
      case c1 => unfold maxLen; omega
      case c2 => omega
      case c3 => simp; omega
      intro v4 w4 ho4 hb4 _ _
      obtain ⟨A4, c4, rfl, hs4⟩ := Sl.of_own ho4 (fun u hu => by
        rcases List.mem_append.1 hu with hu | hu
        · exact nats_one _ _ u (by simpa using hu)
        · simp at hu; subst hu; rfl)
      have hlong := unp_long A4 (N + 1) c4 n w4 (by omega) (by rw [← HN.out]; omega) (by simpa using hs4.le) hs4.max
      have Hlong := Lib.hid hlong
      have B24 := (hb23.alloc hsz3 (.cells #[.int .u8 x0] 5)).trans hb4
      clear ho3 ho3a hsx ho4 hs4 hlong hb4 hb23
      go_wp2_with fail
      first
        | refine Hlong.out.mono ?_
        | (rw [Nat.zero_add] at *; refine Hlong.out.mono ?_)
      rintro e w5 ⟨rfl, rfl⟩
      by_cases hr0 : r = 0
      · subst hr0
        have HB := Lib.hid (below_trans' B2 B24)
        go_wp2_with fail
        go_ret
        exact ⟨by first | rfl | simp, HB.out⟩
      · have hrp : ¬ (r : Int) = 0 := by omega
        have hrb : ((r : Int) == 0) = false := by rw [beq_eq_false_iff_ne]; exact hrp
        obtain ⟨fr, hfre⟩ : ∃ fr, fr = 8 - r := ⟨_, rfl⟩
        have hfr : 0 < fr := by omega
        have hfrI : (8 : Int) - (r : Int) = (fr : Int) := by omega
        have hfr8 : fr + r = 8 := by omega
        have Hfr8 := Lib.hid hfr8
        clear hfre hfr8
        have hN1 := hN0 (by omega)
        obtain ⟨K, hK⟩ : ∃ K, K = N - 1 := ⟨_, rfl⟩
        have hKN : K < N := by omega
        have HK := Lib.hid hK
        have hKI : (N : Int) - 1 = (K : Int) := by omega
        clear hK
        obtain ⟨wb, hwb⟩ : ∃ wb, wb = w4 := ⟨_, rfl⟩
        have hs5 := Hs2.out.keep B24
        rw [← hwb] at hs5 B24 ⊢
        have hsa := hs5.keep (below_new wb (.cells #[] 5))
        have ho5 : (wb.alloc (.cells #[] 5)).ownsRow wb.heap.size 5 1 (.slice (some ⟨wb.heap.size, 0, none⟩) 0 0) 0 [] := World.ownsRow_made wb #[] 0 (Nat.le_refl _) (by decide) rfl
        clear hwb
        have Hs5 := Lib.hid hs5
        clear hs5
        go_wp2_with (at_builtin; refine wpList_append_sl rfl (.tmp 56) (.tmp 57) 22 rfl wb.heap.size 5 i0 (.int .u8 0) 1 Try.underlying22 hi hz0 hz1 hz2 rfl _ 0 [] rfl ho5 _ N N _ rfl hsa ?c1 ?c2 ?c3 ?_)
        case c1 => unfold maxLen; omega
        case c2 => omega
        case c3 => simp
        intro v6 w6 ho6 hb6 _ _
        have hb56 := (below_new wb (.cells #[] 5)).trans hb6
        have ho6' : w6.ownsRow wb.heap.size 5 1 v6 N (nats .u8 (packS l)) := by simpa using ho6
        obtain ⟨g, cq, rfl, hgw⟩ : ∃ g cq, v6 = .slice (some ⟨g, 0, none⟩) N cq ∧ wb.heap.size ≤ g := by
          rcases ho6'.2 with ⟨_, h0⟩ | ⟨g, cap, cur, hv, hbg, _⟩
          · omega
          · exact ⟨g, cap, hv, hbg⟩
        have hpl : (packS l).length = N := by rw [packS_length, Hlen.out, HN.out]
        obtain ⟨y, hy⟩ : ∃ y, y = (packS l).getD K 0 := ⟨_, rfl⟩
        have hy8 : y < 256 := by rw [hy, getD_eq _ _ (by omega)]; exact packS_lt l _ (List.getElem_mem _)
        obtain ⟨m, hm⟩ : ∃ m, m = bit % fr := ⟨_, rfl⟩
        have hmf : m < fr := by rw [hm]; exact Nat.mod_lt _ hfr
        have hm8 : m < 8 := by have := Hfr8.out; omega
        have hp8 : 2 ^ m < 256 := Nat.lt_of_lt_of_le (Nat.pow_lt_pow_right (by decide) hm8) (by decide)
        have hcy : w6.cell? ⟨g, K, none⟩ = some (.int .u8 (y : Int)) := by
          have h1 := ho6'.cellAt K (by omega)
          rw [nats, List.getElem?_map, show (packS l)[K]? = some y from by rw [hy, List.getElem?_eq_getElem (by omega), getD_eq _ _ (by omega)]] at h1
          exact h1
        have hgl : g < w6.heap.size := World.block_lt_of_cell? w6 _ hcy
        have Hcy := Lib.hid hcy
        have Hown := Lib.hid ho6'
        have Hbel := Lib.hid hb56
        have Hpl := Lib.hid hpl
        have Hy := Lib.hid hy
        have Hm := Lib.hid hm
        clear ho5 hsa ho6 ho6' hb6 hb56 hcy hpl hy hm
        go_wp2_with fail
        refine region_put _ [Fact.is (.slice (some ⟨g, 0, none⟩) N cq), Fact.is (.slice (some ⟨g, 0, none⟩) N cq), Fact.is (.int .i64 (N : Int)), Fact.is (.int .i64 (K : Int)), Fact.is (.slice (some ⟨g, 0, none⟩) N cq), Fact.is (.slice (some ⟨g, 0, none⟩) N cq), Fact.is (.int .i64 (N : Int)), Fact.is (.int .i64 (K : Int)), Fact.is (.pointer (some ⟨g, K, none⟩)), Fact.is (.int .u8 (y : Int)), Fact.is (.int .i64 (bit : Int)), Fact.is (.int .i64 (fr : Int)), Fact.is (.int .i64 (m : Int)), Fact.is (.int .u64 (m : Int)), Fact.is (.int .u8 ((2 ^ m : Nat) : Int)), Fact.is (.int .u8 ((y ||| 2 ^ m : Nat) : Int)), Fact.is (.pointer (some ⟨g, K, none⟩)), Fact.any] [[(11, none)], [(11, none)], [(60, some 1)], [(61, some 2)], [(11, none)], [(11, none)], [(64, some 5)], [(65, some 6)], [(63, some 4), (66, some 7)], [(67, some 8)], [(1, none)], [(10, none)], [(69, some 10), (70, some 11)], [(71, some 12)], [(72, some 13)], [(68, some 9), (73, some 14)], [(59, some 0), (62, some 3)], [(75, some 16), (74, some 15)]] [true, true, true, true, true, true, true, true, true, true, true, true, true, true, true, true, true, true] [.pre, .pre, .pre, .pre, .pre, .pre, .pre, .pre, .pre, .pre, .pre, .pre, .pre, .pre, .pre, .pre, .pre, .put] [true, true, true, true, true, true, true, true, true, true, true, true, true, true, true, true, true, true] 17 999 (fun w5 => w5.ownsRow wb.heap.size 5 1 (.slice (some ⟨g, 0, none⟩) N cq) N (nats .u8 ((packS l).set K (y ||| 2 ^ m))) ∧ Below wb.heap.size wb w5) (fun _ => True) (by kernel_rfl) (by kernel_rfl) (by kernel_rfl) ⟨fun _ => Fact.free_is _, fun _ => Fact.free_is _, fun _ => Fact.free_is _, fun _ => Fact.free_is _, fun _ => Fact.free_is _, fun _ => Fact.free_is _, fun _ => Fact.free_is _, fun _ => Fact.free_is _, fun _ => Fact.free_is _, fun _ => Fact.free_is _, fun _ => Fact.free_is _, fun _ => Fact.free_is _, fun _ => Fact.free_is _, fun _ => Fact.free_is _, fun _ => Fact.free_is _, fun _ => Fact.free_is _, fun _ => Fact.free_is _, fun _ => Fact.free_any, trivial⟩ ⟨⟨?_, ?_⟩, ⟨?_, ?_⟩, ⟨?_, ?_⟩, ⟨?_, ?_⟩, ⟨?_, ?_⟩, ⟨?_, ?_⟩, ⟨?_, ?_⟩, ⟨?_, ?_⟩, ⟨?_, ?_⟩, ⟨?_, ?_⟩, ⟨?_, ?_⟩, ⟨?_, ?_⟩, ⟨?_, ?_⟩, ⟨?_, ?_⟩, ⟨?_, ?_⟩, ⟨?_, ?_⟩, ⟨?_, ?_⟩, ⟨?_, ?_⟩, trivial⟩ ?_
        · intro ρ w' hc hB h11
          refine chain_run rfl ?_
          exact opk_move rfl ⟨Below.refl _ _, h11⟩
        · exact rfl
        · intro ρ w' hc hB h11
          refine chain_run rfl ?_
          exact opk_move rfl ⟨Below.refl _ _, h11⟩
        · exact rfl
        · intro ρ w' hc hB h60
          refine chain_run rfl ?_
          exact opk_len Try.underlying22 rfl h60 ⟨Below.refl _ _, rfl⟩
        · exact rfl
        · intro ρ w' hc hB h61
          refine chain_run rfl ?_
          exact opk_sub_i64 rfl h61 (hc.1 _) (by omega) ⟨Below.refl _ _, congrArg (Value.int .i64) (by omega)⟩
        · exact rfl
        · intro ρ w' hc hB h11
          refine chain_run rfl ?_
          exact opk_move rfl ⟨Below.refl _ _, h11⟩
        · exact rfl
        · intro ρ w' hc hB h11
          refine chain_run rfl ?_
          exact opk_move rfl ⟨Below.refl _ _, h11⟩
        · exact rfl
        · intro ρ w' hc hB h64
          refine chain_run rfl ?_
          exact opk_len Try.underlying22 rfl h64 ⟨Below.refl _ _, rfl⟩
        · exact rfl
        · intro ρ w' hc hB h65
          refine chain_run rfl ?_
          exact opk_sub_i64 rfl h65 (hc.1 _) (by omega) ⟨Below.refl _ _, congrArg (Value.int .i64) (by omega)⟩
        · exact rfl
        · intro ρ w' hc hB h63 h66
          refine chain_run rfl ?_
          exact opk_indexAddr rfl h63 h66 hKN ⟨Below.refl _ _, congrArg (fun a => Value.pointer (some a)) (by rw [add_none, Nat.zero_add])⟩
        · exact rfl
        · intro ρ w' hc hB h67
          refine chain_run rfl ?_
          exact opk_load_u8 rfl h67 ((hB.cell (p := ⟨g, K, none⟩) hgl).trans Hcy.out) ⟨Below.refl _ _, rfl⟩
        · exact rfl
        · intro ρ w' hc hB h1
          refine chain_run rfl ?_
          exact opk_move rfl ⟨Below.refl _ _, h1⟩
        · exact rfl
        · intro ρ w' hc hB h10
          refine chain_run rfl ?_
          exact opk_move rfl ⟨Below.refl _ _, h10⟩
        · exact rfl
        · intro ρ w' hc hB h69 h70
          refine chain_run rfl ?_
          exact opk_remN hfr rfl h69 h70 ⟨Below.refl _ _, congrArg (Value.int .i64) (by rw [Hm.out])⟩
        · exact rfl
        · intro ρ w' hc hB h71
          refine chain_run rfl ?_
          exact opk_u64 (by omega) rfl h71 ⟨Below.refl _ _, rfl⟩
        · exact rfl
        · intro ρ w' hc hB h72
          refine chain_run rfl ?_
          exact opk_shl1 hm8 rfl (hc.1 _) h72 ⟨Below.refl _ _, rfl⟩
        · exact rfl
        · intro ρ w' hc hB h68 h73
          refine chain_run rfl ?_
          exact opk_or8 hy8 hp8 rfl h68 h73 ⟨Below.refl _ _, rfl⟩
        · exact rfl
        · intro ρ w' hc hB h59 h62
          refine chain_run rfl ?_
          exact opk_indexAddr rfl h59 h62 hKN ⟨Below.refl _ _, congrArg (fun a => Value.pointer (some a)) (by rw [add_none, Nat.zero_add])⟩
        · exact rfl
        · intro ρ w' hc hB h75 h74
          refine chain_run rfl ?_
          have ho := World.ownsRow.below Hown.out hB
          have h75' : ρ (.tmp 75) = .pointer (some ⟨g, K, none⟩) := h75
          have h74' : ρ (.tmp 74) = .int .u8 ((y ||| 2 ^ m : Nat) : Int) := h74
          have hcw : w'.cell? ⟨g, K, none⟩ = some (.int .u8 (y : Int)) := (hB.cell (p := ⟨g, K, none⟩) hgl).trans Hcy.out
          have hfw : w'.frozen? ⟨g, K, none⟩ = false := ho.frozenAt _
          refine opk_skip (w' := w'.setCell ⟨g, K, none⟩ (.int .u8 ((y ||| 2 ^ m : Nat) : Int))) (by simp only [execOp, h75', h74']; simp [hcw, hfw, go_sem]) ⟨⟨?_, ?_⟩, trivial⟩
          · have h1 := (ho.stored K (.int .u8 ((y ||| 2 ^ m : Nat) : Int))).1
            rw [nats_set] at h1
            exact h1
          · exact (Hbel.out.trans (hB.mono Hbel.out.size)).setCell (p := ⟨g, K, none⟩) hgw _
        · exact rfl
        intro a' w7 hP hsz hd hF hU
        obtain ⟨ho7, hb7⟩ : w7.ownsRow wb.heap.size 5 1 (.slice (some ⟨g, 0, none⟩) N cq) N (nats .u8 ((packS l).set K (y ||| 2 ^ m))) ∧ Below wb.heap.size wb w7 := hP
        have hs7 := Sl.of_own_at ho7 (nats_one _ _)
        obtain ⟨fq, hfq, hlit⟩ := act_lit a' _ _ [59, 60, 61, 62, 63, 64, 65, 66, 67, 68, 69, 70, 71, 72, 73, 74, 75] hsz hd (fun t ht => hU t (by
          intro i o ho hod
          have := List.mem_filterMap.2 ⟨o, List.mem_of_getElem? ho, hod⟩
          revert this
          exact fun h => ht (by simpa using h)))
        rw [hlit]
        have hor : y ||| 2 ^ m < 256 := Nat.or_lt_two_pow (n := 8) hy8 hp8
        have hfill := unp_fill (some ⟨g, 0, none⟩) N cq ((packS l).set K (y ||| 2 ^ m)) n w7 hs7 (fun z hz => by
          rcases List.mem_or_eq_of_mem_set hz with h | h
          · exact packS_lt l z h
          · rw [h]; exact hor) (by omega) HN.out (by rw [← Hr.out]; omega) (by
          rw [← HK.out, ← Hr.out]
          rw [show ((packS l).set K (y ||| 2 ^ m)).getD K 0 = y ||| 2 ^ m from by simp [Hpl.out, hKN]]
          exact fill_set y r m (by have := Hfr8.out; omega))
        have Hfill := Lib.hid hfill
        have hs7p := Hs5.out.keep hb7
        have hslh := fun W => run_slice_hi (w := W) (P := Try.prog) Try.underlying22 hi hz1 A2 N N K (by omega) (Nat.le_refl _) hs7p.max
        have hshort := fun W => unp_short A2 K N n W (by omega) (by rw [← HN.out]; exact hKN) (by omega) hs7p.max
        have Hshort := Lib.hid hshort
        have HB := Lib.hid (below_trans' (below_trans' B2 B24) hb7)
        clear hF hU hlit hfq hsz hd ho7 hs7 hfill hs7p hshort
        go_wp2_with fail
        refine Hfill.out.mono ?_
        rintro e w8 ⟨rfl, rfl⟩
        go_wp2_with fail
        refine (Hshort.out _).mono ?_
        rintro e w9 ⟨rfl, rfl⟩
        go_wp2_with fail
        go_ret
        exact ⟨by first | rfl | simp, HB.out⟩
  · go_enter Try.func9, Try.ntmps9
    go_wp2_with fail
    refine (known7 _).mono ?_
    rintro e w1 ⟨rfl, hb1⟩
    go_wp2_with fail
    go_ret
    exact ⟨rfl, hb1⟩
end Go.Proofs.Ytcmmgehghlaofaa
