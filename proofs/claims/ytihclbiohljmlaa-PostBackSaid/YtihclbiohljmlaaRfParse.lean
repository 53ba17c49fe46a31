/- The reference's Parse: what it answers, for any bytes. -/
import Derived.Test.YtihclbiohljmlaaPbParse
import Derived.Test.YtihclbiohljmlaaRfField2
namespace Go.Proofs.Ytihclbiohljmlaa
open Go.RowKit
set_option linter.unusedVariables false

set_option maxHeartbeats 1600000 in
set_option maxRecDepth 100000 in
theorem rparse_p (A : Option Addr) (n c : Nat) (bs : List Nat) (w : World) (hb : Sl w A n c (nats .u8 bs)) (hbs : ∀ x ∈ bs, x < 256) (hn : n ≤ 1000000000000) :
    Calls Try.prog 12 #[.slice A n c] w fun e w' => ParOut w (parS bs) e w' := by
  have hlen := hb.len
  rw [nats_length] at hlen
  obtain ⟨i0, hi, hz0, hz1, hz2⟩ := info_parts Try.info84
  by_cases hlong : 262144 < n
  · have hR : parS bs = ([], 4) := by unfold parS; rw [if_pos (by omega)]
    rw [hR]
    clear hR hlen
    go_enter Try.func12, Try.ntmps12
    go_wp2_with fail
    go_ret2
    exact ParOut.bad (Below.refl _ _)
  · have hR : parS bs = parR bs.length bs 0 [] := by unfold parS; rw [if_neg (by omega)]
    have H0 : ParSt w bs (parS bs) 84 0 (.slice none 0 0) 0 [] w := ⟨by rw [hR]; simp, World.ownsRow_nil _ _ _ _, rfl, (fun _ h => by cases h), by omega, Below.refl _ _⟩
    generalize parS bs = R at *
    have Hlen := Lib.hid hlen
    clear hR hlen
    go_enter Try.func12, Try.ntmps12
    go_wp2_with fail
    go_loopw [4, 5] (fun ov av wr => ∃ (k m co : Nat) (Ao : Option Addr) (ps : List FA), k ≤ n ∧ av = .int .i64 (k : Int) ∧ ov = .slice Ao m co ∧ ParSt w bs R 84 k (.slice Ao m co) m ps wr) (fun _ av _ => n - (intOf av).toNat)
    case atStart => exact ⟨0, 0, 0, none, [], by omega, rfl, rfl, H0⟩
    case round =>
      obtain ⟨k, m, co, Ao, ps, hk, rfl, rfl, hst⟩ := hrel
      have hfew := hst.few
      have hbel := hst.bel
      have Hst := Lib.hid hst
      by_cases hlt : k < n
      · have hp1 := hst.par1 (by rw [Hlen.out]; exact hlt)
        by_cases hfull : 4096 ≤ m
        · rw [if_pos hfull] at hp1
          obtain rfl : m = 4096 := by omega
          subst hp1
          clear hst
          go_wp2_with fail
          go_ret2
          exact ParOut.bad Hst.out.bel
        · rw [if_neg hfull] at hp1
          have hfulle : ((m : Int) == 4096) = false := beq_eq_false_iff_ne.2 (by omega)
          have hsz := fldR_size (bs.drop k) k
          have hl := Hlen.out
          rw [List.length_drop, hl] at hsz
          have hfp := rfield_p A n c bs k wr (hb.keep hbel) hbs hk hn
          generalize hF : fldR (bs.drop k) k = r at hp1 hsz hfp
          obtain ⟨⟨num, wire, u, b, at_⟩, s, er⟩ := r
          simp only at hp1 hsz hfp
          have HF := Lib.hid hF
          have Hfp := Lib.hid hfp
          have Hp1 := Lib.hid hp1
          clear hst hF hfp hp1 hl
          by_cases her : er = 0
          · subst her
            have hs1 := hsz rfl
            have hks : k + s ≤ 1000000000000 := by omega
            clear hsz
            rw [if_neg (by simp)] at Hfp
            go_wp2_with fail
            refine Hfp.out.mono ?_
            rintro e w1 ⟨B, cB, rfl, ht, hb1⟩
            unfold fldV
            dsimp only
            have ho1 := own_below Hst.out.own hb1
            have bN := heap_alloc2_new w1 (.cells #[.int .i64 (num : Int), .int .i64 (wire : Int), .int .u64 (u : Int), .slice B b.length cB, .int .i64 (at_ : Int)] 84) (.cells #[.int .i64 (num : Int), .int .i64 (wire : Int), .int .u64 (u : Int), .slice B b.length cB, .int .i64 (at_ : Int)] 84)
            have hsz1 := hb1.size
            have hszr := hbel.size
            have HbN := Lib.hid bN
            have Ht := Lib.hid ht
            have Hb1 := Lib.hid hb1
            have Ho1 := Lib.hid ho1
            clear ht hb1 ho1 bN
            go_wp2_with (at_builtin; refine wpList_append_own _ rfl (.tmp 29) (.tmp 31) 28 rfl w.heap.size 84 i0 fz 5 56 Try.underlying28 hi hz0 hz1 hz2 rfl (by decide) (.slice Ao m co) m _ rfl ((Ho1.out.alloc _).alloc _) ⟨w1.heap.size + 1, 0, none⟩ 1 1 (FA.cells ⟨⟨num, wire, u, b, at_⟩, B, cB⟩) rfl rfl ?c1 ?c2 ?c3 ?c4 ?c5 ?_)
            case c1 =>
              intro j x hx
              rw [add_none, Nat.zero_add, cell_of_row _ _ _ _ _ _ HbN.out]
              simpa [FA.cells] using hx
            case c2 => exact FA.one _
            case c3 => unfold maxLen; omega
            case c4 => omega
            case c5 => simp; omega
            intro v' w2 ho2 hg2 _
            have hst2 := Hst.out.step (by rw [Hlen.out]; exact hlt) hfull HF.out ((Hb1.out.alloc hsz1 _).alloc (by simp; omega) _) ((Ht.out.keep (below_new _ _)).keep (below_new _ _)) (by decide) ((Ho1.out.alloc _).alloc _) ho2 hg2
            obtain ⟨A2, c2, rfl, _⟩ := SlS.of_own ho2 (fun u hu => by rcases List.mem_append.1 hu with h | h; exact flat_one ps u h; exact FA.one _ u h)
            have Hst2 := Lib.hid hst2
            clear hst2 ho2 hg2 hbel
            go_wp2_with fail
            exact ⟨⟨k + s, m + 1, c2, A2, _, by omega, by go_num, rfl, Hst2.out⟩, by simp only [intOf]; omega⟩
          · have hp := Hp1.out
            rw [if_pos her] at hp
            subst hp
            have hne : ((er : Int) != 0) = true := by simp; omega
            rw [if_pos her] at Hfp
            clear hsz Hp1
            go_wp2_with fail
            refine Hfp.out.mono ?_
            rintro e w1 ⟨B, cB, rfl, ht, hb1⟩
            unfold fldV
            dsimp only
            have Hb1 := Lib.hid hb1
            clear ht hb1
            go_wp2_with fail
            go_ret2
            exact ParOut.bad (((Hst.out.bel.trans (Hb1.out.mono hbel.size))).alloc (Nat.le_trans hbel.size Hb1.out.size) _)
      · have ho := hst.out (by rw [Hlen.out]; omega)
        have Ho := Lib.hid ho.1
        clear hst ho
        go_wp2_with fail
        go_ret2
        exact Ho.out
end Go.Proofs.Ytihclbiohljmlaa
