/- NumsVars: the walk. (Printed by gen/numslaw3.py.) -/
import Derived.Test.YtepkboilfgmkkaaNumsKnown
import Derived.Test.YtepkboilfgmkkaaOps3
namespace Go.Proofs.Ytepkboilfgmkkaa
open Go.RowKit
open PackMath
set_option linter.unusedVariables false

set_option maxHeartbeats 6400000 in
set_option maxRecDepth 100000 in
theorem law_NumsVars (A : Option Addr) (n c : Nat) (bs : List Nat) (at_ v0 : Int) (w : World) (hb0 : Sl w A n c (nats .u8 bs)) (hbs : ∀ x ∈ bs, x < 256)
    (hat : -9223372036854775808 ≤ at_ ∧ at_ ≤ 9223372036854775807) (hv0 : 0 ≤ v0 ∧ v0 < ((18446744073709551616 : Nat) : Int)) :
    Calls Try.prog 9 #[.slice A n c, .int .i64 at_, .int .u64 v0] w fun e w' => e = .returned (.bool true) ∧ Below w.heap.size w w' := by
  obtain ⟨v, rfl⟩ : ∃ v : Nat, v0 = (v : Int) := ⟨v0.toNat, by omega⟩
  have hv : v < 18446744073709551616 := by omega
  have hle := hb0.le
  have hmax := hb0.max
  unfold maxLen at hmax
  have hlen := hb0.len
  rw [nats_length] at hlen
  by_cases hn : n ≤ 3000
  · have Hv := Lib.hid hv
    have Hbl := Lib.hid (show bs.length ≤ 3000 by omega)
    have Hpl := Lib.hid (varP_length v)
    have Hpb := Lib.hid (varP_byte v hv)
    have Hbs := Lib.hid hbs
    have Hrd := Lib.hid (varP_read v bs hv)
    generalize hps : varP v = ps at *
    have Hps := Lib.hid hps
    have V1 := Lib.hid (fun W h => varp A n c bs at_ W h hbs hat.1 hat.2)
    have V2 := Lib.hid (fun W h => varr A n c bs at_ W h hbs hat.1 hat.2)
    generalize varS bs at_ = r at *
    obtain ⟨r1, r2, r3⟩ := r
    have Hlen := Lib.hid hlen
    clear hbs hat hps hv hv0 hlen
    obtain ⟨i0, hi, hz0, hz1, hz2⟩ := info_parts Try.info5
    go_enter Try.func9, Try.ntmps9
    go_wp2_with fail
    refine (known1 _).mono ?_
    rintro e w1 ⟨rfl, hb1⟩
    have sb1 := hb0.keep hb1
    go_wp2_with fail
    refine (V1.out _ sb1).mono ?_
    rintro e w2 ⟨rfl, rfl⟩
    unfold varV
    go_wp2_with fail
    refine (V2.out _ sb1).mono ?_
    rintro e w2 ⟨rfl, rfl⟩
    unfold varV
    go_wp2_with fail
    refine (putvar_p none 0 0 [] v _ (Sl.none_ _) Hv.out (by decide)).mono ?_
    rintro e w3 ⟨Ap, mp, rfl, sp3, hb3⟩
    rw [List.nil_append, Hps.out] at sp3
    have hmp := sp3.len
    rw [nats_length] at hmp
    subst hmp
    have B3 := below_trans' hb1 hb3
    have hpl2 := Hpl.out.2
    have sb3 := hb0.keep (B3.alloc B3.size (.cells #[] 5))
    have ho3 : (w3.alloc (.cells #[] 5)).ownsRow w3.heap.size 5 1 (.slice (some ⟨w3.heap.size, 0, none⟩) 0 0) 0 [] := World.ownsRow_made w3 #[] 0 (Nat.le_refl _) (by decide) rfl
    clear sb1
    go_wp2_with (at_builtin; refine wpList_append_sl rfl _ _ 22 rfl w3.heap.size 5 i0 (.int .u8 0) 1 Try.underlying22 hi hz0 hz1 hz2 rfl _ 0 [] rfl ho3 _ n c _ rfl sb3 ?c1 ?c2 ?c3 ?_)
    case c1 => unfold maxLen; omega
    case c2 => omega
    case c3 => simp
    intro v4 w4 ho4 hb4 _ _
    obtain ⟨A4, c4, rfl, sq4⟩ := Sl.of_own ho4 (nats_one _ _)
    have hb34 := (below_new w3 (.cells #[] 5)).trans hb4
    clear ho4 ho3 sb3 hb4
    go_wp2_with fail
    refine (putvar_p A4 n c4 bs v _ sq4 Hv.out (by omega)).mono ?_
    rintro e w5 ⟨Aq, mq, rfl, sq5, hb5⟩
    rw [Hps.out] at sq5
    have hmq := sq5.len
    rw [nats_length] at hmq
    clear hmq
    have B35 := below_trans' hb34 hb5
    have sp5 := sp3.keep B35
    have B5 := below_trans' B3 B35
    have sp5a := sp5.keep (below_new w5 (.cells #[] 5))
    have sb5a := hb0.keep (B5.alloc B5.size (.cells #[] 5))
    have ho5 : (w5.alloc (.cells #[] 5)).ownsRow w5.heap.size 5 1 (.slice (some ⟨w5.heap.size, 0, none⟩) 0 0) 0 [] := World.ownsRow_made w5 #[] 0 (Nat.le_refl _) (by decide) rfl
    clear sq4 hb5 hb34 B35 sp3 B3 hb3 hb1
    go_wp2_with (at_builtin; refine wpList_append_sl rfl _ _ 22 rfl w5.heap.size 5 i0 (.int .u8 0) 1 Try.underlying22 hi hz0 hz1 hz2 rfl _ 0 [] rfl ho5 _ ps.length ps.length _ rfl sp5a ?c1 ?c2 ?c3 ?_)
    case c1 => unfold maxLen; omega
    case c2 => omega
    case c3 => simp
    intro v6 w6 ho6 hb6 _ _
    have hb56 := (below_new w5 (.cells #[] 5)).trans hb6
    have sb6 := hb0.keep (below_trans' B5 hb56)
    have hsz6 := hb56.size
    clear ho5 sp5a sb5a hb6
    go_wp2_with (at_builtin; refine wpList_append_sl rfl _ _ 22 rfl w5.heap.size 5 i0 (.int .u8 0) 1 Try.underlying22 hi hz0 hz1 hz2 rfl _ ps.length _ rfl ho6 _ n c _ rfl sb6 ?c1 ?c2 ?c3 ?_)
    case c1 => unfold maxLen; omega
    case c2 => omega
    case c3 => exact hsz6
    intro v7 w7 ho7 hb7 _ _
    rw [← nats_append] at ho7
    obtain ⟨A7, c7, rfl, s7⟩ := Sl.of_own ho7 (nats_one _ _)
    have B57 := hb56.trans hb7
    have hv7 := varp A7 (ps.length + n) c7 (ps ++ bs) 0 _ s7 (fun x hx => (List.mem_append.1 hx).elim (Hpb.out x) (Hbs.out x)) (by decide) (by decide)
    have hz : varS (ps ++ bs) 0 = (v, ps.length, 0) := by
      unfold varS
      rw [if_neg (by omega)]
      exact Hrd.out
    rw [hz] at hv7
    have HV7 := Lib.hid hv7
    have sp := sp5.keep B57
    have sq := sq5.keep B57
    have B7 := below_trans' B5 B57
    have sb := hb0.keep B7
    clear hz hv7 ho7 ho6 s7 hb7 sb6 sp5 sq5 B57 hb56 B5 hsz6
    go_wp2_with fail
    refine HV7.out.mono ?_
    rintro e w8 ⟨rfl, rfl⟩
    unfold varV
    clear HV7
    go_upto_region 12 with fail
    refine region_all _ [Fact.sl ps.length (nats .u8 ps), Fact.is (.string (strOf ps)), Fact.is (.int .u64 (v : Int)), Fact.sl ps.length (nats .u8 ps), Fact.is (.string (strOf ps)), Fact.is (.bool true), Fact.is (.bool true), Fact.sl mq (nats .u8 (bs ++ ps)), Fact.is (.string (strOf (bs ++ ps))), Fact.sl n (nats .u8 bs), Fact.is (.string (strOf bs)), Fact.sl ps.length (nats .u8 ps), Fact.is (.string (strOf ps)), Fact.is (.string (strOf (bs ++ ps))), Fact.is (.bool true), Fact.is (.bool true), Fact.is (.bool true), Fact.is (.int .u64 (v : Int)), Fact.is (.int .u64 (v : Int)), Fact.is (.bool true), Fact.is (.bool true), Fact.is (.bool true), Fact.is (.int .i64 (ps.length : Int)), Fact.sl ps.length (nats .u8 ps), Fact.is (.int .i64 (ps.length : Int)), Fact.is (.bool true), Fact.is (.bool true), Fact.is (.bool true), Fact.is (.int .i64 0), Fact.is (.bool true), Fact.is (.bool true), Fact.is (.bool true)] [[(13, none)], [(67, some 0)], [(2, none)], [(69, some 2)], [(70, some 3)], [(68, some 1), (71, some 4)], [(72, some 5)], [(14, none)], [(74, some 7)], [(0, none)], [(76, some 9)], [(13, none)], [(78, some 11)], [(77, some 10), (79, some 12)], [(75, some 8), (80, some 13)], [(73, some 6), (81, some 14)], [(82, some 15)], [(15, none)], [(2, none)], [(84, some 17), (85, some 18)], [(83, some 16), (86, some 19)], [(87, some 20)], [(16, none)], [(13, none)], [(90, some 23)], [(89, some 22), (91, some 24)], [(88, some 21), (92, some 25)], [(93, some 26)], [(17, none)], [(95, some 28)], [(94, some 27), (96, some 29)], [(97, some 30)]] [true, true, true, true, true, true, true, true, true, true, true, true, true, true, true, true, true, true, true, true, true, true, true, true, true, true, true, true, true, true, true, true] (by kernel_rfl) (by kernel_rfl) ⟨⟨?_, ?_⟩, ⟨?_, ?_⟩, ⟨?_, ?_⟩, ⟨?_, ?_⟩, ⟨?_, ?_⟩, ⟨?_, ?_⟩, ⟨?_, ?_⟩, ⟨?_, ?_⟩, ⟨?_, ?_⟩, ⟨?_, ?_⟩, ⟨?_, ?_⟩, ⟨?_, ?_⟩, ⟨?_, ?_⟩, ⟨?_, ?_⟩, ⟨?_, ?_⟩, ⟨?_, ?_⟩, ⟨?_, ?_⟩, ⟨?_, ?_⟩, ⟨?_, ?_⟩, ⟨?_, ?_⟩, ⟨?_, ?_⟩, ⟨?_, ?_⟩, ⟨?_, ?_⟩, ⟨?_, ?_⟩, ⟨?_, ?_⟩, ⟨?_, ?_⟩, ⟨?_, ?_⟩, ⟨?_, ?_⟩, ⟨?_, ?_⟩, ⟨?_, ?_⟩, ⟨?_, ?_⟩, ⟨?_, ?_⟩, trivial⟩ ?_
    · intro ρ w' hc hB h13
      refine chain_run rfl ?_
      exact opk_move rfl ⟨Below.refl _ _, ⟨_, _, h13, (sp).keep hB⟩⟩
    · exact rfl
    · intro ρ w' hc hB h67
      refine chain_run rfl ?_
      obtain ⟨A_, c_, e_, s_⟩ := h67
      exact opk_str rfl Try.underlying22 Try.underlying5 Try.underlying9 e_ s_ ⟨Below.refl _ _, rfl⟩
    · exact rfl
    · intro ρ w' hc hB h2
      refine chain_run rfl ?_
      exact opk_move rfl ⟨Below.refl _ _, h2⟩
    · exact rfl
    · intro ρ w' hc hB h69
      refine chain_run rfl ?_
      have e2 : ρ (Operand.tmp 69) = .int .u64 (v : Int) := h69
      refine opk_call rfl hc Try.func34 (by kernel_rfl) (by kernel_rfl) ?_
      rw [show (#[Operand.const (Value.slice none 0 0), Operand.tmp 69] : Array Operand).map ρ = #[.slice none 0 0, .int .u64 (v : Int)] from by simp [hc.1, e2]]
      refine (putvar_r w'.heap.size 0 [] v (.slice none 0 0) w' (World.ownsRow_nil _ _ _ _) (Nat.le_refl _) Hv.out (by decide)).mono ?_
      rintro e w2 ⟨v', rfl, ho, hb2⟩
      obtain ⟨A3, c3, rfl, hs3⟩ := Sl.of_own ho (nats_one _ _)
      rw [Nat.zero_add, List.nil_append, Hps.out] at hs3
      rw [Nat.zero_add, Hps.out]
      exact ⟨_, rfl, hb2, _, _, rfl, hs3⟩
    · exact rfl
    · intro ρ w' hc hB h70
      refine chain_run rfl ?_
      obtain ⟨A_, c_, e_, s_⟩ := h70
      exact opk_str rfl Try.underlying22 Try.underlying5 Try.underlying9 e_ s_ ⟨Below.refl _ _, rfl⟩
    · exact rfl
    · intro ρ w' hc hB h68 h71
      refine chain_run rfl ?_
      exact opk_eql_string rfl h68 h71 ⟨Below.refl _ _, congrArg Value.bool (by simp)⟩
    · exact rfl
    · intro ρ w' hc hB h72
      refine chain_run rfl ?_
      exact opk_move rfl ⟨Below.refl _ _, h72⟩
    · exact rfl
    · intro ρ w' hc hB h14
      refine chain_run rfl ?_
      exact opk_move rfl ⟨Below.refl _ _, ⟨_, _, h14, (sq).keep hB⟩⟩
    · exact fun v w h => ⟨true, h, rfl⟩
    · intro ρ w' hc hB h74
      refine chain_run rfl ?_
      obtain ⟨A_, c_, e_, s_⟩ := h74
      exact opk_str rfl Try.underlying22 Try.underlying5 Try.underlying9 e_ s_ ⟨Below.refl _ _, rfl⟩
    · exact fun v w h => ⟨true, h, rfl⟩
    · intro ρ w' hc hB h0
      refine chain_run rfl ?_
      exact opk_move rfl ⟨Below.refl _ _, ⟨_, _, h0, (sb).keep hB⟩⟩
    · exact fun v w h => ⟨true, h, rfl⟩
    · intro ρ w' hc hB h76
      refine chain_run rfl ?_
      obtain ⟨A_, c_, e_, s_⟩ := h76
      exact opk_str rfl Try.underlying22 Try.underlying5 Try.underlying9 e_ s_ ⟨Below.refl _ _, rfl⟩
    · exact fun v w h => ⟨true, h, rfl⟩
    · intro ρ w' hc hB h13
      refine chain_run rfl ?_
      exact opk_move rfl ⟨Below.refl _ _, ⟨_, _, h13, (sp).keep hB⟩⟩
    · exact fun v w h => ⟨true, h, rfl⟩
    · intro ρ w' hc hB h78
      refine chain_run rfl ?_
      obtain ⟨A_, c_, e_, s_⟩ := h78
      exact opk_str rfl Try.underlying22 Try.underlying5 Try.underlying9 e_ s_ ⟨Below.refl _ _, rfl⟩
    · exact fun v w h => ⟨true, h, rfl⟩
    · intro ρ w' hc hB h77 h79
      refine chain_run rfl ?_
      exact opk_add_string rfl h77 h79 (by have := Hbl.out; have := Hpl.out; omega) ⟨Below.refl _ _, rfl⟩
    · exact fun v w h => ⟨true, h, rfl⟩
    · intro ρ w' hc hB h75 h80
      refine chain_run rfl ?_
      exact opk_eql_string rfl h75 h80 ⟨Below.refl _ _, congrArg Value.bool (by simp)⟩
    · exact fun v w h => ⟨true, h, rfl⟩
    · intro ρ w' hc hB h73 h81
      refine chain_run rfl ?_
      exact opk_pick rfl h73 ⟨Below.refl _ _, h81⟩
    · exact rfl
    · intro ρ w' hc hB h82
      refine chain_run rfl ?_
      exact opk_move rfl ⟨Below.refl _ _, h82⟩
    · exact rfl
    · intro ρ w' hc hB h15
      refine chain_run rfl ?_
      exact opk_move rfl ⟨Below.refl _ _, h15⟩
    · exact fun v w h => ⟨true, h, rfl⟩
    · intro ρ w' hc hB h2
      refine chain_run rfl ?_
      exact opk_move rfl ⟨Below.refl _ _, h2⟩
    · exact fun v w h => ⟨true, h, rfl⟩
    · intro ρ w' hc hB h84 h85
      refine chain_run rfl ?_
      exact opk_eql_int rfl h84 h85 ⟨Below.refl _ _, congrArg Value.bool (by simp)⟩
    · exact fun v w h => ⟨true, h, rfl⟩
    · intro ρ w' hc hB h83 h86
      refine chain_run rfl ?_
      exact opk_pick rfl h83 ⟨Below.refl _ _, h86⟩
    · exact rfl
    · intro ρ w' hc hB h87
      refine chain_run rfl ?_
      exact opk_move rfl ⟨Below.refl _ _, h87⟩
    · exact rfl
    · intro ρ w' hc hB h16
      refine chain_run rfl ?_
      exact opk_move rfl ⟨Below.refl _ _, h16⟩
    · exact fun v w h => ⟨true, h, rfl⟩
    · intro ρ w' hc hB h13
      refine chain_run rfl ?_
      exact opk_move rfl ⟨Below.refl _ _, ⟨_, _, h13, (sp).keep hB⟩⟩
    · exact fun v w h => ⟨true, h, rfl⟩
    · intro ρ w' hc hB h90
      refine chain_run rfl ?_
      obtain ⟨A_, c_, e_, s_⟩ := h90
      exact opk_len Try.underlying22 rfl e_ ⟨Below.refl _ _, rfl⟩
    · exact fun v w h => ⟨true, h, rfl⟩
    · intro ρ w' hc hB h89 h91
      refine chain_run rfl ?_
      exact opk_eql_int rfl h89 h91 ⟨Below.refl _ _, congrArg Value.bool (by simp)⟩
    · exact fun v w h => ⟨true, h, rfl⟩
    · intro ρ w' hc hB h88 h92
      refine chain_run rfl ?_
      exact opk_pick rfl h88 ⟨Below.refl _ _, h92⟩
    · exact rfl
    · intro ρ w' hc hB h93
      refine chain_run rfl ?_
      exact opk_move rfl ⟨Below.refl _ _, h93⟩
    · exact rfl
    · intro ρ w' hc hB h17
      refine chain_run rfl ?_
      exact opk_move rfl ⟨Below.refl _ _, h17⟩
    · exact fun v w h => ⟨true, h, rfl⟩
    · intro ρ w' hc hB h95
      refine chain_run rfl ?_
      exact opk_eql_int rfl h95 (hc.1 _) ⟨Below.refl _ _, congrArg Value.bool (by simp)⟩
    · exact fun v w h => ⟨true, h, rfl⟩
    · intro ρ w' hc hB h94 h96
      refine chain_run rfl ?_
      exact opk_pick rfl h94 ⟨Below.refl _ _, h96⟩
    · exact rfl
    · intro ρ w' hc hB h97
      refine chain_run rfl ?_
      exact opk_assign rfl ⟨Below.refl _ _, h97⟩
    · exact rfl
    intro a' w' hbe hsz hd hF hU
    have h5 : a'.tmps.getD 6 undef = .bool true := hF 31 _ 6 rfl rfl
    go_wp2_with fail
    refine bodyPost_ret (results_tmp rfl _ _ _) hd ?_
    rw [h5]
    exact ⟨rfl, below_trans' B7 hbe⟩
  · clear hlen hbs
    go_enter Try.func9, Try.ntmps9
    go_wp2_with fail
    refine (known1 _).mono ?_
    rintro e w1 ⟨rfl, hb1⟩
    go_wp2_with fail
    go_ret
    exact ⟨rfl, hb1⟩
end Go.Proofs.Ytepkboilfgmkkaa
