/- PbCuts: the walk. (Printed by gen/cutslaw.py.) -/
import Derived.Test.YtihclbiohljmlaaPbKnown
import Derived.Test.YtihclbiohljmlaaPbCutsM
import Derived.Test.YtihclbiohljmlaaPutRow
import Derived.Test.YtihclbiohljmlaaOps7
import Derived.Test.YtihclbiohljmlaaRegionQ
import Derived.Test.YtihclbiohljmlaaMask
namespace Go.Proofs.Ytihclbiohljmlaa
open Go.RowKit
set_option linter.unusedVariables false

theorem flds_len {w : World} {A : Option Addr} {n c : Nat} {ps : List FA} {R : List FieldV} (h : Flds w A n c ps) (he : ps.map FA.f = R) : R.length = n := by
  rw [← he, List.length_map, h.hl]
theorem fa_get (ps : List FA) (i : Nat) (h : i < ps.length) : (ps.map FA.f)[i]? = some (ps.getD i noFA).f := by simp [h]
theorem take_same (ps qs : List FA) (R : List FieldV) (k : Nat) (h1 : ps.map FA.f = R) (h2 : qs.map FA.f = R.take k) (j : Nat) (hj : j < qs.length) (hp : j < ps.length) : (ps.getD j noFA).f = (qs.getD j noFA).f := by
  have e1 := fa_get ps j hp
  have e2 := fa_get qs j hj
  rw [h1] at e1
  rw [h2, List.getElem?_take] at e2
  split at e2
  · rw [e1] at e2; exact Option.some.inj e2
  · cases e2
theorem below_drop {w w2 : World} (h : Below w.heap.size w w2) (q : Nat) : Below w.heap.size w (w2.drewN q) := h.trans ((below_drewN w2 q).mono h.size)

set_option maxHeartbeats 6400000 in
set_option maxRecDepth 100000 in
theorem law_PbCuts (A : Option Addr) (n c : Nat) (ps : List PutIn) (cut : Int) (w : World) (hp : PutsIn w A n c ps) (hcut : -9223372036854775808 ≤ cut ∧ cut ≤ 9223372036854775807) :
    Calls Try.prog 5 #[.slice A n c, .int .i64 cut] w fun e w' => e = .returned (.bool true) ∧ Below w.heap.size w w' := by
  have hle := hp.le
  have hmax := hp.max
  unfold maxLen at hmax
  obtain ⟨hc1, hc2⟩ := hcut
  obtain ⟨i0, hi, hz0, hz1, hz2⟩ := info_parts Try.info52
  obtain ⟨j0, hj, hy0, hy1, hy2⟩ := info_parts Try.info57
  have Hi := Lib.hid hi
  have Hz1 := Lib.hid hz1
  have Hj := Lib.hid hj
  have Hy1 := Lib.hid hy1
  have Hlen := Lib.hid hp.hlen
  have Hp := Lib.hid hp
  clear hi hz0 hz1 hz2 hj hy0 hy1 hy2 hp
  by_cases hg : n ≤ 40 ∧ 0 ≤ cut
  · obtain ⟨g1, g2⟩ := hg
    obtain ⟨k, rfl⟩ : ∃ k : Nat, cut = k := ⟨cut.toNat, by omega⟩
    have hk : k ≤ 9223372036854775807 := by omega
    clear g2 hc1 hc2
    go_enter Try.func5, Try.ntmps5
    go_wp2_with fail
    refine (known3 w).mono ?_
    rintro e w1 ⟨rfl, hb1⟩
    have Hb1 := Lib.hid hb1
    clear hb1
    go_wp2_with fail
    go_loopw [5, 6] (fun bv iv wr => ∃ (i mb cb : Nat) (Ab : Option Addr), i ≤ n ∧ iv = .int .i64 (i : Int) ∧ bv = .slice Ab mb cb ∧ Sl wr Ab mb cb (nats .u8 (putsB (cutsOf (ps.take i)))) ∧ (∀ x ∈ ps.take i, x.In ∧ x.b.length ≤ 200) ∧ Below w.heap.size w wr) (fun _ iv _ => n - (intOf iv).toNat)
    case atStart => exact ⟨0, 0, 0, none, by omega, rfl, rfl, Sl.none_ _, (fun x hx => by simp at hx), Hb1.out⟩
    case round =>
      obtain ⟨i, mb, cb, Ab, hi', rfl, rfl, hsl, h200, hbel⟩ := hrel
      have hok := cutsOf_ok _ h200
      have hmb := hsl.len
      rw [nats_length] at hmb
      have hmb2 : mb ≤ 18400 := by
        have h1 := hok.2.1
        rw [hmb, List.length_take, Hlen.out] at h1
        omega
      have Hsl := Lib.hid hsl
      have H200 := Lib.hid h200
      have Hbel := Lib.hid hbel
      have Hok := Lib.hid hok
      have Hmb := Lib.hid hmb
      clear hsl h200 hbel hok hmb Hb1
      by_cases hlt : i < n
      · obtain ⟨b, off, rfl, hbw, hat⟩ := Hp.out.at_ (by omega)
        have hil : i < ps.length := by rw [Hlen.out]; exact hlt
        have hx := hat i ps[i] (List.getElem?_eq_getElem hil)
        have htk : ps.take (i + 1) = ps.take i ++ [ps[i]] := List.take_succ_eq_append_getElem hil
        have hsn := cuts_snoc (ps.take i) ps[i]
        rw [← htk] at hsn
        generalize ps[i] = x at *
        obtain ⟨xkind, xnum, xu, xA, xc, xb⟩ := x
        obtain ⟨c0, c1, c2, c3, xs, xin⟩ := hx
        have hub := xin.ub
        have hnb := xin.nb
        obtain ⟨hnb1, hnb2⟩ := hnb
        dsimp only at *
        generalize hbl : xb.length = bl at *
        have k1 := (Hbel.out.cell (p := ⟨b, off + i * 4 + 1, none⟩) hbw).trans c1
        have k2 := (Hbel.out.cell (p := ⟨b, off + i * 4 + 2, none⟩) hbw).trans c2
        have k3 := (Hbel.out.cell (p := ⟨b, off + i * 4 + 3, none⟩) hbw).trans c3
        have hbw2 : b < wr.heap.size := Nat.lt_of_lt_of_le hbw Hbel.out.size
        have Hxs := Lib.hid (xs.keep Hbel.out)
        have Hxin := Lib.hid xin
        have Hub := Lib.hid hub
        have Hbl := Lib.hid hbl
        have Htk := Lib.hid htk
        have Hsn := Lib.hid hsn
        clear hat c0 c1 c2 xs xin hub hbl htk hsn c3
        by_cases h2 : 200 < bl
        · clear k1 k2
          go_wp2_with fail
          go_ret
          exact ⟨rfl, Hbel.out⟩
        · have K1 := Lib.hid k1
          have K2 := Lib.hid k2
          have K3 := Lib.hid k3
          clear k1 k2
          have Hlt := Lib.hid hbw2
          have hM1 : ∃ M1, putsB (cutsOf (ps.take i)) ++ putU xnum xu = M1 := ⟨_, rfl⟩
          obtain ⟨M1, hM1⟩ := hM1
          obtain ⟨M2, hM2⟩ : ∃ M2, M1 ++ putT xnum xb = M2 := ⟨_, rfl⟩
          have hM1l : M1.length ≤ 18430 := by
            rw [← hM1, List.length_append, Hmb.out]
            have : (putU xnum xu).length ≤ 20 := by
              unfold putU
              split
              · exact num_len _ _
              · simp
            omega
          have hM12 : putsB (cutsOf (ps.take (i + 1))) = M2 := by rw [Hsn.out, hM1, hM2]
          have HM1 := Lib.hid hM1
          have HM2 := Lib.hid hM2
          have HM1l := Lib.hid hM1l
          have HM12 := Lib.hid hM12
          clear hM1 hM2 hM1l hM12
          go_wp2_with fail
          refine region_all _ [Fact.sl mb (nats .u8 (putsB (cutsOf (ps.take i)))), Fact.is (.slice (some ⟨b, off, none⟩) n c), Fact.is (.int .i64 (i : Int)), Fact.is (.pointer (some ⟨b, off + i * 4, none⟩)), Fact.is (.pointer (some ⟨b, off + i * 4 + 1, none⟩)), Fact.is (.int .i64 xnum), Fact.is (.slice (some ⟨b, off, none⟩) n c), Fact.is (.int .i64 (i : Int)), Fact.is (.pointer (some ⟨b, off + i * 4, none⟩)), Fact.is (.pointer (some ⟨b, off + i * 4 + 2, none⟩)), Fact.is (.int .u64 (xu : Int)), Fact.sl M1.length (nats .u8 M1), Fact.is (.slice (some ⟨b, off, none⟩) n c), Fact.is (.int .i64 (i : Int)), Fact.is (.pointer (some ⟨b, off + i * 4, none⟩)), Fact.is (.pointer (some ⟨b, off + i * 4 + 1, none⟩)), Fact.is (.int .i64 xnum), Fact.is (.slice (some ⟨b, off, none⟩) n c), Fact.is (.int .i64 (i : Int)), Fact.is (.pointer (some ⟨b, off + i * 4, none⟩)), Fact.is (.pointer (some ⟨b, off + i * 4 + 3, none⟩)), Fact.is (.slice xA bl xc), Fact.sl M2.length (nats .u8 M2), Fact.sl M2.length (nats .u8 M2)] [[(5, none)], [(0, none)], [(6, none)], [(35, some 1), (36, some 2)], [(37, some 3)], [(38, some 4)], [(0, none)], [(6, none)], [(40, some 6), (41, some 7)], [(42, some 8)], [(43, some 9)], [(34, some 0), (39, some 5), (44, some 10)], [(0, none)], [(6, none)], [(46, some 12), (47, some 13)], [(48, some 14)], [(49, some 15)], [(0, none)], [(6, none)], [(51, some 17), (52, some 18)], [(53, some 19)], [(54, some 20)], [(45, some 11), (50, some 16), (55, some 21)], [(56, some 22)]] [true, true, true, true, true, true, true, true, true, true, true, true, true, true, true, true, true, true, true, true, true, true, true, true] (by kernel_rfl) (by kernel_rfl) ⟨⟨?_, ?_⟩, ⟨?_, ?_⟩, ⟨?_, ?_⟩, ⟨?_, ?_⟩, ⟨?_, ?_⟩, ⟨?_, ?_⟩, ⟨?_, ?_⟩, ⟨?_, ?_⟩, ⟨?_, ?_⟩, ⟨?_, ?_⟩, ⟨?_, ?_⟩, ⟨?_, ?_⟩, ⟨?_, ?_⟩, ⟨?_, ?_⟩, ⟨?_, ?_⟩, ⟨?_, ?_⟩, ⟨?_, ?_⟩, ⟨?_, ?_⟩, ⟨?_, ?_⟩, ⟨?_, ?_⟩, ⟨?_, ?_⟩, ⟨?_, ?_⟩, ⟨?_, ?_⟩, ⟨?_, ?_⟩, trivial⟩ ?_
          · intro ρ w' hc hB h5
            refine chain_run rfl ?_
            exact opk_move rfl ⟨Below.refl _ _, ⟨_, _, h5, (Hsl.out).keep hB⟩⟩
          · exact rfl
          · intro ρ w' hc hB h0
            refine chain_run rfl ?_
            exact opk_move rfl ⟨Below.refl _ _, h0⟩
          · exact rfl
          · intro ρ w' hc hB h6
            refine chain_run rfl ?_
            exact opk_move rfl ⟨Below.refl _ _, h6⟩
          · exact rfl
          · intro ρ w' hc hB h35 h36
            refine chain_run rfl ?_
            exact opk_idx Try.underlying50 Hi.out Hz1.out rfl h35 h36 (by omega) ⟨Below.refl _ _, by show _ = _; simp [add_none]⟩
          · exact rfl
          · intro ρ w' hc hB h37
            refine chain_run rfl ?_
            exact opk_put_1 rfl h37 ⟨Below.refl _ _, rfl⟩
          · exact rfl
          · intro ρ w' hc hB h38
            refine chain_run rfl ?_
            exact opk_load_int rfl h38 ((hB.cell (p := ⟨b, off + i * 4 + 1, none⟩) Hlt.out).trans K1.out) ⟨Below.refl _ _, rfl⟩
          · exact rfl
          · intro ρ w' hc hB h0
            refine chain_run rfl ?_
            exact opk_move rfl ⟨Below.refl _ _, h0⟩
          · exact rfl
          · intro ρ w' hc hB h6
            refine chain_run rfl ?_
            exact opk_move rfl ⟨Below.refl _ _, h6⟩
          · exact rfl
          · intro ρ w' hc hB h40 h41
            refine chain_run rfl ?_
            exact opk_idx Try.underlying50 Hi.out Hz1.out rfl h40 h41 (by omega) ⟨Below.refl _ _, by show _ = _; simp [add_none]⟩
          · exact rfl
          · intro ρ w' hc hB h42
            refine chain_run rfl ?_
            exact opk_put_2 rfl h42 ⟨Below.refl _ _, rfl⟩
          · exact rfl
          · intro ρ w' hc hB h43
            refine chain_run rfl ?_
            exact opk_load_u64 rfl h43 ((hB.cell (p := ⟨b, off + i * 4 + 2, none⟩) Hlt.out).trans K2.out) ⟨Below.refl _ _, rfl⟩
          · exact rfl
          · intro ρ w' hc hB h34 h39 h44
            refine chain_run rfl ?_
            obtain ⟨A1, c1, e1, s1⟩ := h34
            have e39 : ρ (Operand.tmp 39) = .int .i64 xnum := h39
            have e44 : ρ (Operand.tmp 44) = .int .u64 (xu : Int) := h44
            refine opk_call rfl hc Try.func23 (by kernel_rfl) (by kernel_rfl) ?_
            rw [show (#[Operand.tmp 34, Operand.tmp 39, Operand.tmp 44] : Array Operand).map ρ = #[.slice A1 mb c1, .int .i64 xnum, .int .u64 (xu : Int)] from by simp [e1, e39, e44]]
            refine (putuint_p A1 mb c1 _ xnum xu w' s1 Hub.out (by omega)).mono ?_
            rintro e w2 ⟨A2, m2, c2, rfl, hs2, hb2⟩
            rw [HM1.out] at hs2
            have hm2 : m2 = M1.length := by rw [← hs2.len, nats_length]
            subst hm2
            exact ⟨_, rfl, hb2, _, _, rfl, hs2⟩
          · exact rfl
          · intro ρ w' hc hB h0
            refine chain_run rfl ?_
            exact opk_move rfl ⟨Below.refl _ _, h0⟩
          · exact rfl
          · intro ρ w' hc hB h6
            refine chain_run rfl ?_
            exact opk_move rfl ⟨Below.refl _ _, h6⟩
          · exact rfl
          · intro ρ w' hc hB h46 h47
            refine chain_run rfl ?_
            exact opk_idx Try.underlying50 Hi.out Hz1.out rfl h46 h47 (by omega) ⟨Below.refl _ _, by show _ = _; simp [add_none]⟩
          · exact rfl
          · intro ρ w' hc hB h48
            refine chain_run rfl ?_
            exact opk_put_1 rfl h48 ⟨Below.refl _ _, rfl⟩
          · exact rfl
          · intro ρ w' hc hB h49
            refine chain_run rfl ?_
            exact opk_load_int rfl h49 ((hB.cell (p := ⟨b, off + i * 4 + 1, none⟩) Hlt.out).trans K1.out) ⟨Below.refl _ _, rfl⟩
          · exact rfl
          · intro ρ w' hc hB h0
            refine chain_run rfl ?_
            exact opk_move rfl ⟨Below.refl _ _, h0⟩
          · exact rfl
          · intro ρ w' hc hB h6
            refine chain_run rfl ?_
            exact opk_move rfl ⟨Below.refl _ _, h6⟩
          · exact rfl
          · intro ρ w' hc hB h51 h52
            refine chain_run rfl ?_
            exact opk_idx Try.underlying50 Hi.out Hz1.out rfl h51 h52 (by omega) ⟨Below.refl _ _, by show _ = _; simp [add_none]⟩
          · exact rfl
          · intro ρ w' hc hB h53
            refine chain_run rfl ?_
            exact opk_put_3 rfl h53 ⟨Below.refl _ _, rfl⟩
          · exact rfl
          · intro ρ w' hc hB h54
            refine chain_run rfl ?_
            exact opk_load_slice rfl h54 ((hB.cell (p := ⟨b, off + i * 4 + 3, none⟩) Hlt.out).trans K3.out) ⟨Below.refl _ _, rfl⟩
          · exact rfl
          · intro ρ w' hc hB h45 h50 h55
            refine chain_run rfl ?_
            obtain ⟨A1, c1, e1, s1⟩ := h45
            have e50 : ρ (Operand.tmp 50) = .int .i64 xnum := h50
            have e55 : ρ (Operand.tmp 55) = .slice xA bl xc := h55
            refine opk_call rfl hc Try.func27 (by kernel_rfl) (by kernel_rfl) ?_
            rw [show (#[Operand.tmp 45, Operand.tmp 50, Operand.tmp 55] : Array Operand).map ρ = #[.slice A1 M1.length c1, .int .i64 xnum, .slice xA bl xc] from by simp [e1, e50, e55]]
            refine (putbytes_p A1 _ c1 _ xnum xA bl xc xb w' s1 (Hxs.out.keep hB) (by have := HM1l.out; omega) (by omega)).mono ?_
            rintro e w2 ⟨A2, m2, c2, rfl, hs2, hb2⟩
            rw [HM2.out] at hs2
            have hm2 : m2 = M2.length := by rw [← hs2.len, nats_length]
            subst hm2
            exact ⟨_, rfl, hb2, _, _, rfl, hs2⟩
          · exact rfl
          · intro ρ w' hc hB h56
            refine chain_run rfl ?_
            exact opk_assign rfl ⟨Below.refl _ _, h56⟩
          · exact rfl
          intro a' w2 hbe hsz hd hF hU
          obtain ⟨A5, c5, e5, s5⟩ := hF 23 _ 5 rfl rfl
          obtain ⟨f, hf, hlit⟩ := act_put a' _ _ [34, 35, 36, 37, 38, 39, 40, 41, 42, 43, 44, 45, 46, 47, 48, 49, 50, 51, 52, 53, 54, 55, 56, 5] hsz hd (fun t ht => hU t (by
            intro i o ho hod
            have := List.mem_filterMap.2 ⟨o, List.mem_of_getElem? ho, hod⟩
            revert this
            exact fun h => ht (by simpa using h)))
          rw [← hf] at e5
          rw [hlit]
          clear hF hU hlit hf hsz hd
          simp only [List.foldl_cons, List.foldl_nil]
          rw [e5]
          have S5 : Hid (Sl w2 A5 M2.length c5 (nats .u8 (putsB (cutsOf (ps.take (i + 1)))))) := Lib.hid (by rw [HM12.out]; exact s5)
          have Hb5 := Lib.hid (Hbel.out.trans (hbe.mono Hbel.out.size))
          have H201 : Hid (∀ x ∈ ps.take (i + 1), x.In ∧ x.b.length ≤ 200) := fun x hx => by
            rw [Htk.out] at hx
            rcases List.mem_append.1 hx with hx | hx
            · exact H200.out x hx
            · rw [List.mem_singleton] at hx
              subst hx
              exact ⟨Hxin.out, by show xb.length ≤ 200; rw [Hbl.out]; omega⟩
          clear s5 e5 hbe k3
          go_wp2_with fail
          exact ⟨⟨i + 1, _, c5, A5, by omega, by go_num, rfl, S5.out, H201.out, Hb5.out⟩, by simp only [intOf]; omega⟩
      · obtain rfl : i = n := by omega
        have htl : ps.take i = ps := List.take_of_length_le (by rw [Hlen.out]; omega)
        by_cases h0 : mb = 0
        · subst h0
          go_wp2_with fail
          go_ret
          exact ⟨rfl, Hbel.out⟩
        · have hbs := Hok.out.2.2.2
          have hbk := Hok.out.1
          have hlk := Hok.out.2.2.1
          rw [List.length_take, Hlen.out] at hlk
          have hpar := parS_puts _ hbk (by rw [Hmb.out]; omega) (by omega)
          have hcutp := parS_cut _ hbk (k % mb) (by rw [Hmb.out]; omega) (by omega)
          have hkm : k % mb < mb := Nat.mod_lt _ (by omega)
          have hp3 := parse_p Ab mb cb _ wr Hsl.out hbs (by omega)
          rw [hpar] at hp3
          have hsl2 := Hsl.out.take (k % mb) (by omega)
          rw [show (nats .u8 (putsB (cutsOf (ps.take i)))).take (k % mb) = nats .u8 ((putsB (cutsOf (ps.take i))).take (k % mb)) from by simp [nats]] at hsl2
          have hin := parS_in _ hbs
          rw [hpar] at hin
          rw [Hmb.out] at hin
          generalize putsF 0 (cutsOf (ps.take i)) = fs at *
          generalize hB : (putsB (cutsOf (ps.take i))).take (k % mb) = B2 at *
          have hB2 : ∀ x ∈ B2, x < 256 := fun x hx => hbs x (by rw [← hB] at hx; exact List.mem_of_mem_take hx)
          have Hp3 := Lib.hid hp3
          have Hsl2 := Lib.hid hsl2
          have Hcutp := Lib.hid hcutp
          have HB2 := Lib.hid hB2
          have hp4 := fun w h => parse_p Ab (k % mb) cb B2 w h hB2 (by omega)
          have Hp4 := Lib.hid hp4
          have hmod : ((k : Int) % (mb : Int)) = ((k % mb : Nat) : Int) := by omega
          generalize k % mb = km at *
          have Hmod := Lib.hid hmod
          have Hin := Lib.hid hin
          clear hp3 hsl2 hcutp hB hB2 hp4 hbs hbk hlk hpar hmod hin htl
          go_wp2_with fail
          refine Hp3.out.mono ?_
          rintro e w3 ⟨F1, m1, cF1, qs1, rfl, hfl1, hqs1, b3⟩
          dsimp only at hqs1
          have Hfl1 := Lib.hid hfl1
          have Hqs1 := Lib.hid hqs1
          have Hb3 := Lib.hid b3
          have hmod := Hmod.out
          have hmc : km ≤ cb := by have := Hsl.out.le; omega
          clear hfl1 hqs1 b3
          go_wp2_with fail
          refine (Hp4.out w3 (Hsl2.out.keep Hb3.out)).mono ?_
          rintro e w4 ⟨F2, m2, cF2, qs2, rfl, hfl2, hqs2, b4⟩
          have Hfl1b := Lib.hid (Hfl1.out.keep b4)
          have Hb4 := Lib.hid ((Hbel.out.trans (Hb3.out.mono Hbel.out.size)).trans (b4.mono (Hbel.out.trans (Hb3.out.mono Hbel.out.size)).size))
          rcases Hcutp.out with hc | ⟨kk, hkk, hc⟩
          · rw [hc] at hqs2 ⊢
            dsimp only at hqs2
            obtain rfl : m2 = 0 := by
              have h1 := hfl2.hl
              have h2 := congrArg List.length hqs2
              rw [List.length_map, List.length_nil] at h2
              omega
            clear hc hqs2 hfl2 b4 hmod
            go_wp2_with fail
            go_ret
            exact ⟨by first | rfl | simp, Hb4.out⟩
          · rw [hc] at hqs2 ⊢
            dsimp only at hqs2
            have hm21 : m2 ≤ m1 := by
              have h1 := flds_len hfl2 hqs2
              have h2 := flds_len Hfl1.out Hqs1.out
              rw [List.length_take] at h1
              omega
            have hsame := fun j h1 h2 => take_same qs1 qs2 fs kk Hqs1.out hqs2 j h1 h2
            have hm1 : m1 ≤ 100000 := by
              have h2 := flds_len Hfl1.out Hqs1.out
              have := Hin.out.2
              omega
            have Hsame := Lib.hid hsame
            have Hfl2 := Lib.hid hfl2
            clear hc hqs2 hfl2 b4 hmod hsame
            go_wp2_with fail
            go_loopw [11] (fun iv wr2 => ∃ j : Nat, j ≤ m2 ∧ iv = .int .i64 (j : Int) ∧ Below w4.heap.size w4 wr2) (fun iv _ => m2 - (intOf iv).toNat)
            case atStart => exact ⟨0, Nat.zero_le _, rfl, Below.refl _ _⟩
            case round =>
              obtain ⟨j, hj2, rfl, hbw4⟩ := hrel
              have Hbw4 := Lib.hid hbw4
              clear hbw4
              by_cases hlt2 : j < m2
              · obtain ⟨b1, o1, rfl, hB1, hcell1⟩ := (Hfl1b.out.sl.keep Hbw4.out).at5 Hfl1b.out.hl (by omega)
                obtain ⟨b2, o2, rfl, hB2, hcell2⟩ := (Hfl2.out.sl.keep Hbw4.out).at5 Hfl2.out.hl (by omega)
                obtain ⟨_, _, y2, y3, y4⟩ := hcell1 j (by omega)
                obtain ⟨_, _, x2, x3, x4⟩ := hcell2 j hlt2
                have hj1l : j < qs1.length := by rw [Hfl1b.out.hl]; omega
                have hj2l : j < qs2.length := by rw [Hfl2.out.hl]; omega
                have hs1 := ((Hfl1b.out.txt _ (getD_mem qs1 j hj1l)).keep Hbw4.out).sl
                have hs2 := ((Hfl2.out.txt _ (getD_mem qs2 j hj2l)).keep Hbw4.out).sl
                have hsm := Hsame.out j hj2l hj1l
                generalize qs1.getD j noFA = p1 at *
                generalize qs2.getD j noFA = p2 at *
                obtain ⟨f1, pA1, pc1⟩ := p1
                obtain ⟨⟨qn, qw, qu, qb, qa⟩, pA2, pc2⟩ := p2
                dsimp only at *
                subst hsm
                dsimp only at *
                have X2 := Lib.hid x2
                have X3 := Lib.hid x3
                have X4 := Lib.hid x4
                have Y2 := Lib.hid y2
                have Y3 := Lib.hid y3
                have Y4 := Lib.hid y4
                have SX := Lib.hid hs2
                have SY := Lib.hid hs1
                have L1 := Lib.hid hB1
                have L2 := Lib.hid hB2
                clear hcell1 hcell2 x2 x3 x4 y2 y3 y4 hs1 hs2 hj1l hj2l hB1 hB2
                go_wp2_with fail
                refine region_all _ [Fact.is (.int .i64 (j : Int)), Fact.is (.slice (some ⟨b1, o1, none⟩) m1 cF1), Fact.is (.int .i64 (m1 : Int)), Fact.is (.bool false), Fact.is (.bool false), Fact.is (.slice (some ⟨b2, o2, none⟩) m2 cF2), Fact.is (.int .i64 (j : Int)), Fact.is (.pointer (some ⟨b2, o2 + j * 5, none⟩)), Fact.is (.pointer (some ⟨b2, o2 + j * 5 + 4, none⟩)), Fact.is (.int .i64 (qa : Int)), Fact.is (.slice (some ⟨b1, o1, none⟩) m1 cF1), Fact.is (.int .i64 (j : Int)), Fact.is (.pointer (some ⟨b1, o1 + j * 5, none⟩)), Fact.is (.pointer (some ⟨b1, o1 + j * 5 + 4, none⟩)), Fact.is (.int .i64 (qa : Int)), Fact.is (.bool false), Fact.is (.bool false), Fact.is (.bool false), Fact.is (.slice (some ⟨b2, o2, none⟩) m2 cF2), Fact.is (.int .i64 (j : Int)), Fact.is (.pointer (some ⟨b2, o2 + j * 5, none⟩)), Fact.is (.pointer (some ⟨b2, o2 + j * 5 + 2, none⟩)), Fact.is (.int .u64 (qu : Int)), Fact.is (.slice (some ⟨b1, o1, none⟩) m1 cF1), Fact.is (.int .i64 (j : Int)), Fact.is (.pointer (some ⟨b1, o1 + j * 5, none⟩)), Fact.is (.pointer (some ⟨b1, o1 + j * 5 + 2, none⟩)), Fact.is (.int .u64 (qu : Int)), Fact.is (.bool false), Fact.is (.bool false), Fact.is (.bool false), Fact.is (.slice (some ⟨b2, o2, none⟩) m2 cF2), Fact.is (.int .i64 (j : Int)), Fact.is (.pointer (some ⟨b2, o2 + j * 5, none⟩)), Fact.is (.pointer (some ⟨b2, o2 + j * 5 + 3, none⟩)), Fact.sl qb.length (nats .u8 qb), Fact.is (.string (strOf qb)), Fact.is (.slice (some ⟨b1, o1, none⟩) m1 cF1), Fact.is (.int .i64 (j : Int)), Fact.is (.pointer (some ⟨b1, o1 + j * 5, none⟩)), Fact.is (.pointer (some ⟨b1, o1 + j * 5 + 3, none⟩)), Fact.sl qb.length (nats .u8 qb), Fact.is (.string (strOf qb)), Fact.is (.bool false), Fact.is (.bool false)] [[(11, none)], [(7, none)], [(91, some 1)], [(90, some 0), (92, some 2)], [(93, some 3)], [(9, none)], [(11, none)], [(95, some 5), (96, some 6)], [(97, some 7)], [(98, some 8)], [(7, none)], [(11, none)], [(100, some 10), (101, some 11)], [(102, some 12)], [(103, some 13)], [(99, some 9), (104, some 14)], [(94, some 4), (105, some 15)], [(106, some 16)], [(9, none)], [(11, none)], [(108, some 18), (109, some 19)], [(110, some 20)], [(111, some 21)], [(7, none)], [(11, none)], [(113, some 23), (114, some 24)], [(115, some 25)], [(116, some 26)], [(112, some 22), (117, some 27)], [(107, some 17), (118, some 28)], [(119, some 29)], [(9, none)], [(11, none)], [(121, some 31), (122, some 32)], [(123, some 33)], [(124, some 34)], [(125, some 35)], [(7, none)], [(11, none)], [(127, some 37), (128, some 38)], [(129, some 39)], [(130, some 40)], [(131, some 41)], [(126, some 36), (132, some 42)], [(120, some 30), (133, some 43)]] [true, true, true, true, true, true, true, true, true, true, true, true, true, true, true, true, true, true, true, true, true, true, true, true, true, true, true, true, true, true, true, true, true, true, true, true, true, true, true, true, true, true, true, true, true] (by kernel_rfl) (by kernel_rfl) ⟨⟨?_, ?_⟩, ⟨?_, ?_⟩, ⟨?_, ?_⟩, ⟨?_, ?_⟩, ⟨?_, ?_⟩, ⟨?_, ?_⟩, ⟨?_, ?_⟩, ⟨?_, ?_⟩, ⟨?_, ?_⟩, ⟨?_, ?_⟩, ⟨?_, ?_⟩, ⟨?_, ?_⟩, ⟨?_, ?_⟩, ⟨?_, ?_⟩, ⟨?_, ?_⟩, ⟨?_, ?_⟩, ⟨?_, ?_⟩, ⟨?_, ?_⟩, ⟨?_, ?_⟩, ⟨?_, ?_⟩, ⟨?_, ?_⟩, ⟨?_, ?_⟩, ⟨?_, ?_⟩, ⟨?_, ?_⟩, ⟨?_, ?_⟩, ⟨?_, ?_⟩, ⟨?_, ?_⟩, ⟨?_, ?_⟩, ⟨?_, ?_⟩, ⟨?_, ?_⟩, ⟨?_, ?_⟩, ⟨?_, ?_⟩, ⟨?_, ?_⟩, ⟨?_, ?_⟩, ⟨?_, ?_⟩, ⟨?_, ?_⟩, ⟨?_, ?_⟩, ⟨?_, ?_⟩, ⟨?_, ?_⟩, ⟨?_, ?_⟩, ⟨?_, ?_⟩, ⟨?_, ?_⟩, ⟨?_, ?_⟩, ⟨?_, ?_⟩, ⟨?_, ?_⟩, trivial⟩ ?_
                · intro ρ w' hc hB h11
                  refine chain_run rfl ?_
                  exact opk_move rfl ⟨Below.refl _ _, h11⟩
                · exact rfl
                · intro ρ w' hc hB h7
                  refine chain_run rfl ?_
                  exact opk_move rfl ⟨Below.refl _ _, h7⟩
                · exact rfl
                · intro ρ w' hc hB h91
                  refine chain_run rfl ?_
                  exact opk_len Try.underlying24 rfl h91 ⟨Below.refl _ _, rfl⟩
                · exact rfl
                · intro ρ w' hc hB h90 h92
                  refine chain_run rfl ?_
                  exact opk_geq_i64 rfl h90 h92 ⟨Below.refl _ _, congrArg Value.bool (by simp; omega)⟩
                · exact rfl
                · intro ρ w' hc hB h93
                  refine chain_run rfl ?_
                  exact opk_move rfl ⟨Below.refl _ _, h93⟩
                · exact rfl
                · intro ρ w' hc hB h9
                  refine chain_run rfl ?_
                  exact opk_move rfl ⟨Below.refl _ _, h9⟩
                · exact fun v w h => ⟨false, h, rfl⟩
                · intro ρ w' hc hB h11
                  refine chain_run rfl ?_
                  exact opk_move rfl ⟨Below.refl _ _, h11⟩
                · exact fun v w h => ⟨false, h, rfl⟩
                · intro ρ w' hc hB h95 h96
                  refine chain_run rfl ?_
                  exact opk_idx Try.underlying24 Hj.out Hy1.out rfl h95 h96 (by omega) ⟨Below.refl _ _, by show _ = _; simp [add_none]⟩
                · exact fun v w h => ⟨false, h, rfl⟩
                · intro ρ w' hc hB h97
                  refine chain_run rfl ?_
                  exact opk_pbf_4 rfl h97 ⟨Below.refl _ _, rfl⟩
                · exact fun v w h => ⟨false, h, rfl⟩
                · intro ρ w' hc hB h98
                  refine chain_run rfl ?_
                  exact opk_load_int rfl h98 ((hB.cell (p := ⟨b2, o2 + j * 5 + 4, none⟩) L2.out).trans X4.out) ⟨Below.refl _ _, rfl⟩
                · exact fun v w h => ⟨false, h, rfl⟩
                · intro ρ w' hc hB h7
                  refine chain_run rfl ?_
                  exact opk_move rfl ⟨Below.refl _ _, h7⟩
                · exact fun v w h => ⟨false, h, rfl⟩
                · intro ρ w' hc hB h11
                  refine chain_run rfl ?_
                  exact opk_move rfl ⟨Below.refl _ _, h11⟩
                · exact fun v w h => ⟨false, h, rfl⟩
                · intro ρ w' hc hB h100 h101
                  refine chain_run rfl ?_
                  exact opk_idx Try.underlying24 Hj.out Hy1.out rfl h100 h101 (by omega) ⟨Below.refl _ _, by show _ = _; simp [add_none]⟩
                · exact fun v w h => ⟨false, h, rfl⟩
                · intro ρ w' hc hB h102
                  refine chain_run rfl ?_
                  exact opk_pbf_4 rfl h102 ⟨Below.refl _ _, rfl⟩
                · exact fun v w h => ⟨false, h, rfl⟩
                · intro ρ w' hc hB h103
                  refine chain_run rfl ?_
                  exact opk_load_int rfl h103 ((hB.cell (p := ⟨b1, o1 + j * 5 + 4, none⟩) L1.out).trans Y4.out) ⟨Below.refl _ _, rfl⟩
                · exact fun v w h => ⟨false, h, rfl⟩
                · intro ρ w' hc hB h99 h104
                  refine chain_run rfl ?_
                  exact opk_neq_int rfl h99 h104 ⟨Below.refl _ _, congrArg Value.bool (by simp)⟩
                · exact fun v w h => ⟨false, h, rfl⟩
                · intro ρ w' hc hB h94 h105
                  refine chain_run rfl ?_
                  exact opk_pick rfl h94 ⟨Below.refl _ _, h105⟩
                · exact rfl
                · intro ρ w' hc hB h106
                  refine chain_run rfl ?_
                  exact opk_move rfl ⟨Below.refl _ _, h106⟩
                · exact rfl
                · intro ρ w' hc hB h9
                  refine chain_run rfl ?_
                  exact opk_move rfl ⟨Below.refl _ _, h9⟩
                · exact fun v w h => ⟨false, h, rfl⟩
                · intro ρ w' hc hB h11
                  refine chain_run rfl ?_
                  exact opk_move rfl ⟨Below.refl _ _, h11⟩
                · exact fun v w h => ⟨false, h, rfl⟩
                · intro ρ w' hc hB h108 h109
                  refine chain_run rfl ?_
                  exact opk_idx Try.underlying24 Hj.out Hy1.out rfl h108 h109 (by omega) ⟨Below.refl _ _, by show _ = _; simp [add_none]⟩
                · exact fun v w h => ⟨false, h, rfl⟩
                · intro ρ w' hc hB h110
                  refine chain_run rfl ?_
                  exact opk_pbf_2 rfl h110 ⟨Below.refl _ _, rfl⟩
                · exact fun v w h => ⟨false, h, rfl⟩
                · intro ρ w' hc hB h111
                  refine chain_run rfl ?_
                  exact opk_load_u64 rfl h111 ((hB.cell (p := ⟨b2, o2 + j * 5 + 2, none⟩) L2.out).trans X2.out) ⟨Below.refl _ _, rfl⟩
                · exact fun v w h => ⟨false, h, rfl⟩
                · intro ρ w' hc hB h7
                  refine chain_run rfl ?_
                  exact opk_move rfl ⟨Below.refl _ _, h7⟩
                · exact fun v w h => ⟨false, h, rfl⟩
                · intro ρ w' hc hB h11
                  refine chain_run rfl ?_
                  exact opk_move rfl ⟨Below.refl _ _, h11⟩
                · exact fun v w h => ⟨false, h, rfl⟩
                · intro ρ w' hc hB h113 h114
                  refine chain_run rfl ?_
                  exact opk_idx Try.underlying24 Hj.out Hy1.out rfl h113 h114 (by omega) ⟨Below.refl _ _, by show _ = _; simp [add_none]⟩
                · exact fun v w h => ⟨false, h, rfl⟩
                · intro ρ w' hc hB h115
                  refine chain_run rfl ?_
                  exact opk_pbf_2 rfl h115 ⟨Below.refl _ _, rfl⟩
                · exact fun v w h => ⟨false, h, rfl⟩
                · intro ρ w' hc hB h116
                  refine chain_run rfl ?_
                  exact opk_load_u64 rfl h116 ((hB.cell (p := ⟨b1, o1 + j * 5 + 2, none⟩) L1.out).trans Y2.out) ⟨Below.refl _ _, rfl⟩
                · exact fun v w h => ⟨false, h, rfl⟩
                · intro ρ w' hc hB h112 h117
                  refine chain_run rfl ?_
                  exact opk_neq_int rfl h112 h117 ⟨Below.refl _ _, congrArg Value.bool (by simp)⟩
                · exact fun v w h => ⟨false, h, rfl⟩
                · intro ρ w' hc hB h107 h118
                  refine chain_run rfl ?_
                  exact opk_pick rfl h107 ⟨Below.refl _ _, h118⟩
                · exact rfl
                · intro ρ w' hc hB h119
                  refine chain_run rfl ?_
                  exact opk_move rfl ⟨Below.refl _ _, h119⟩
                · exact rfl
                · intro ρ w' hc hB h9
                  refine chain_run rfl ?_
                  exact opk_move rfl ⟨Below.refl _ _, h9⟩
                · exact fun v w h => ⟨false, h, rfl⟩
                · intro ρ w' hc hB h11
                  refine chain_run rfl ?_
                  exact opk_move rfl ⟨Below.refl _ _, h11⟩
                · exact fun v w h => ⟨false, h, rfl⟩
                · intro ρ w' hc hB h121 h122
                  refine chain_run rfl ?_
                  exact opk_idx Try.underlying24 Hj.out Hy1.out rfl h121 h122 (by omega) ⟨Below.refl _ _, by show _ = _; simp [add_none]⟩
                · exact fun v w h => ⟨false, h, rfl⟩
                · intro ρ w' hc hB h123
                  refine chain_run rfl ?_
                  exact opk_pbf_3 rfl h123 ⟨Below.refl _ _, rfl⟩
                · exact fun v w h => ⟨false, h, rfl⟩
                · intro ρ w' hc hB h124
                  refine chain_run rfl ?_
                  exact opk_load_slice rfl h124 ((hB.cell (p := ⟨b2, o2 + j * 5 + 3, none⟩) L2.out).trans X3.out) ⟨Below.refl _ _, ⟨_, _, rfl, (SX.out).keep hB⟩⟩
                · exact fun v w h => ⟨false, h, rfl⟩
                · intro ρ w' hc hB h125
                  refine chain_run rfl ?_
                  obtain ⟨A_, c_, e_, s_⟩ := h125
                  exact opk_str rfl Try.underlying22 Try.underlying5 Try.underlying9 e_ s_ ⟨Below.refl _ _, rfl⟩
                · exact fun v w h => ⟨false, h, rfl⟩
                · intro ρ w' hc hB h7
                  refine chain_run rfl ?_
                  exact opk_move rfl ⟨Below.refl _ _, h7⟩
                · exact fun v w h => ⟨false, h, rfl⟩
                · intro ρ w' hc hB h11
                  refine chain_run rfl ?_
                  exact opk_move rfl ⟨Below.refl _ _, h11⟩
                · exact fun v w h => ⟨false, h, rfl⟩
                · intro ρ w' hc hB h127 h128
                  refine chain_run rfl ?_
                  exact opk_idx Try.underlying24 Hj.out Hy1.out rfl h127 h128 (by omega) ⟨Below.refl _ _, by show _ = _; simp [add_none]⟩
                · exact fun v w h => ⟨false, h, rfl⟩
                · intro ρ w' hc hB h129
                  refine chain_run rfl ?_
                  exact opk_pbf_3 rfl h129 ⟨Below.refl _ _, rfl⟩
                · exact fun v w h => ⟨false, h, rfl⟩
                · intro ρ w' hc hB h130
                  refine chain_run rfl ?_
                  exact opk_load_slice rfl h130 ((hB.cell (p := ⟨b1, o1 + j * 5 + 3, none⟩) L1.out).trans Y3.out) ⟨Below.refl _ _, ⟨_, _, rfl, (SY.out).keep hB⟩⟩
                · exact fun v w h => ⟨false, h, rfl⟩
                · intro ρ w' hc hB h131
                  refine chain_run rfl ?_
                  obtain ⟨A_, c_, e_, s_⟩ := h131
                  exact opk_str rfl Try.underlying22 Try.underlying5 Try.underlying9 e_ s_ ⟨Below.refl _ _, rfl⟩
                · exact fun v w h => ⟨false, h, rfl⟩
                · intro ρ w' hc hB h126 h132
                  refine chain_run rfl ?_
                  exact opk_neq_string rfl h126 h132 ⟨Below.refl _ _, congrArg Value.bool (by simp)⟩
                · exact fun v w h => ⟨false, h, rfl⟩
                · intro ρ w' hc hB h120 h133
                  refine chain_run rfl ?_
                  exact opk_pick rfl h120 ⟨Below.refl _ _, h133⟩
                · exact rfl
                intro a' w5 hbe hsz hd hF hU
                have e5 : a'.tmps.getD 134 undef = .bool false := hF 44 _ 134 rfl rfl
                obtain ⟨f, hf, hlit⟩ := act_mask a' _ _ [90, 91, 92, 93, 94, 95, 96, 97, 98, 99, 100, 101, 102, 103, 104, 105, 106, 107, 108, 109, 110, 111, 112, 113, 114, 115, 116, 117, 118, 119, 120, 121, 122, 123, 124, 125, 126, 127, 128, 129, 130, 131, 132, 133, 134] [false, false, false, false, false, false, false, false, false, false, false, false, false, false, false, false, false, false, false, false, false, false, false, false, false, false, false, false, false, false, false, false, false, false, false, false, false, false, false, false, false, false, false, false, false, false, false, false, false, false, false, false, false, false, false, false, false, false, false, false, false, false, false, false, false, false, false, false, false, false, false, false, false, false, false, false, false, false, false, false, false, false, false, false, false, false, false, false, false, false, true, true, true, true, true, true, true, true, true, true, true, true, true, true, true, true, true, true, true, true, true, true, true, true, true, true, true, true, true, true, true, true, true, true, true, true, true, true, true, true, true, true, true, true, true] hsz hd rfl rfl (fun t ht => hU t (by
                  intro i o ho hod
                  have := List.mem_filterMap.2 ⟨o, List.mem_of_getElem? ho, hod⟩
                  revert this
                  exact fun h => ht (by simpa using h)))
                replace hlit : a' = ⟨#[_, _, _, _, _, _, _, _, _, _, _, _, _, _, _, _, _, _, _, _, _, _, _, _, _, _, _, _, _, _, _, _, _, _, _, _, _, _, _, _, _, _, _, _, _, _, _, _, _, _, _, _, _, _, _, _, _, _, _, _, _, _, _, _, _, _, _, _, _, _, _, _, _, _, _, _, _, _, _, _, _, _, _, _, _, _, _, _, _, _, f 90, f 91, f 92, f 93, f 94, f 95, f 96, f 97, f 98, f 99, f 100, f 101, f 102, f 103, f 104, f 105, f 106, f 107, f 108, f 109, f 110, f 111, f 112, f 113, f 114, f 115, f 116, f 117, f 118, f 119, f 120, f 121, f 122, f 123, f 124, f 125, f 126, f 127, f 128, f 129, f 130, f 131, f 132, f 133, f 134], _⟩ := hlit.trans (by rfl)
                rw [← hf] at e5
                rw [hlit, e5]
                clear hF hU hlit hf hsz hd
                have Hb5 := Lib.hid (Hbw4.out.trans (hbe.mono Hbw4.out.size))
                clear e5 hbe
                go_wp2_with fail
                exact ⟨⟨j + 1, by omega, by go_num, Hb5.out⟩, by simp only [intOf]; omega⟩
              · go_wp2_with fail
                go_ret
                exact ⟨rfl, Hb4.out.trans (Hbw4.out.mono Hb4.out.size)⟩
  · have hbad : 40 < n ∨ (n ≤ 40 ∧ cut < 0) := by omega
    clear hg
    rcases hbad with g1 | ⟨g1, g2⟩
    all_goals
      go_enter Try.func5, Try.ntmps5
      go_wp2_with fail
      refine (known3 w).mono ?_
      rintro e w1 ⟨rfl, hb1⟩
      go_wp2_with fail
      go_ret
      exact ⟨rfl, hb1⟩
end Go.Proofs.Ytihclbiohljmlaa
