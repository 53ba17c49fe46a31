/- PbAsks: the walk. -/
import Derived.Test.YtihclbiohljmlaaPbKnown
import Derived.Test.YtihclbiohljmlaaRfAsk2
import Derived.Test.YtihclbiohljmlaaOps7
namespace Go.Proofs.Ytihclbiohljmlaa
open Go.RowKit
set_option linter.unusedVariables false

theorem ta_getD' (ts : List TA) (i : Nat) (h : i < ts.length) : (ts.map TA.v).getD i undef = ts[i].v := by simp [h]
theorem below_q {w w' : World} (h : Below w.heap.size w w') (q : Nat) : Below w.heap.size w (w'.drewN q).drew := (h.trans ((below_drewN w' q).mono h.size)).drew
theorem getD_eq' (l : List Nat) (i : Nat) (h : i < l.length) : l.getD i 0 = l[i] := by simp [h]

set_option maxHeartbeats 6400000 in
set_option maxRecDepth 100000 in
theorem law_PbAsks (A : Option Addr) (n c : Nat) (bs : List Nat) (num : Int) (w : World) (hb : Sl w A n c (nats .u8 bs)) (hbs : ∀ x ∈ bs, x < 256) (hnum : -9223372036854775808 ≤ num ∧ num ≤ 9223372036854775807) :
    Calls Try.prog 3 #[.slice A n c, .int .i64 num] w fun e w' => e = .returned (.bool true) ∧ Below w.heap.size w w' := by
  have hle := hb.le
  have hmax := hb.max
  unfold maxLen at hmax
  have hlen := hb.len
  rw [nats_length] at hlen
  obtain ⟨hc1, hc2⟩ := hnum
  by_cases hn : n ≤ 3000
  · have hin := parS_in bs hbs
    rw [hlen] at hin
    have hp1 := fun w h => parse_p A n c bs w h hbs (by omega)
    have hp2 := fun w h => rparse_p A n c bs w h hbs (by omega)
    have her : ((parS bs).2 : Int) = ((parS bs).2 : Int) := rfl
    clear her
    generalize parS bs = R at hin hp1 hp2
    obtain ⟨fs, er⟩ := R
    dsimp only at hin
    have Hb := Lib.hid hb
    have Hp1 := Lib.hid hp1
    have Hp2 := Lib.hid hp2
    have Hin := Lib.hid hin
    clear hb hbs hlen hp1 hp2 hin
    go_enter Try.func3, Try.ntmps3
    go_wp2_with fail
    refine (known3 w).mono ?_
    rintro e w1 ⟨rfl, b1⟩
    have B1 := Lib.hid b1
    clear b1
    go_wp2_with fail
    refine (Hp1.out w1 (Hb.out.keep B1.out)).mono ?_
    rintro e w2 ⟨F1, m1, cF1, ps1, rfl, hfl1, hps1, b2⟩
    dsimp only at hps1
    have Hfl1 := Lib.hid hfl1
    have Hps1 := Lib.hid hps1
    have B2 := Lib.hid (B1.out.trans (b2.mono B1.out.size))
    clear hfl1 hps1 b2
    go_wp2_with fail
    refine (Hp2.out w2 (Hb.out.keep B2.out)).mono ?_
    rintro e w3 ⟨F2, m2, cF2, ps2, rfl, hfl2, hps2, b3⟩
    dsimp only at hps2
    have Hg1 := Lib.hid (Hfl1.out.keep b3)
    have Hg2 := Lib.hid hfl2
    have Hps2 := Lib.hid hps2
    have B3 := Lib.hid (B2.out.trans (b3.mono B2.out.size))
    have hm1 : m1 ≤ 4096 := by have h1 := Hfl1.out.hl; have h2 := congrArg List.length Hps1.out; rw [List.length_map, h1] at h2; have := Hin.out.2; omega
    have hm2 : m2 ≤ 4096 := by have h1 := hfl2.hl; have h2 := congrArg List.length hps2; rw [List.length_map, h1] at h2; have := Hin.out.2; omega
    have hin1 : ∀ p ∈ ps1, p.f.In n := fun p hp => Hin.out.1 p.f (by rw [← Hps1.out]; exact List.mem_map_of_mem hp)
    have hin2 : ∀ p ∈ ps2, p.f.In n := fun p hp => Hin.out.1 p.f (by rw [← hps2]; exact List.mem_map_of_mem hp)
    have HI1 := Lib.hid hin1
    have HI2 := Lib.hid hin2
    clear hfl2 hps2 b3 hin1 hin2
    have hk4 := uint_p F1 m1 cF1 ps1 num w3 Hg1.out (by omega)
    rw [Hps1.out] at hk4
    have K4 := Lib.hid hk4
    have hk5 := fun w h => ruint_p F2 m2 cF2 ps2 num w h (by omega)
    rw [Hps2.out] at hk5
    have K5 := Lib.hid hk5
    have hk6 := fun w h => int_p F1 m1 cF1 ps1 num w h (by omega) (fun p hp => (HI1.out p hp).u)
    rw [Hps1.out] at hk6
    have K6 := Lib.hid hk6
    have hk7 := fun w h => rint_p F2 m2 cF2 ps2 num w h (by omega) (fun p hp => (HI2.out p hp).u)
    rw [Hps2.out] at hk7
    have K7 := Lib.hid hk7
    have hk8 := fun w h => text_p F1 m1 cF1 ps1 num w h (by omega) (fun p hp => by have := (HI1.out p hp).bl; omega)
    rw [Hps1.out] at hk8
    have K8 := Lib.hid hk8
    have hk9 := fun w h => rtext_p F2 m2 cF2 ps2 num w h (by omega)
    rw [Hps2.out] at hk9
    have K9 := Lib.hid hk9
    have hk10 := fun w h => all_f F1 m1 cF1 ps1 num w h (by omega) (fun p hp => by have := (HI1.out p hp).bl; omega)
    rw [Hps1.out] at hk10
    have K10 := Lib.hid hk10
    have hk11 := fun w h => rall_f F2 m2 cF2 ps2 num w h (by omega) (fun p hp => by have := (HI2.out p hp).bl; omega)
    rw [Hps2.out] at hk11
    have K11 := Lib.hid hk11
    have hk12 := fun w h => uints_p F1 m1 cF1 ps1 num w h (by omega) (fun p hp => by have := (HI1.out p hp).bl; omega) (fun p hp => (HI1.out p hp).b)
    rw [Hps1.out] at hk12
    have K12 := Lib.hid hk12
    have hk13 := fun w h => ruints_p F2 m2 cF2 ps2 num w h (by omega) (fun p hp => by have := (HI2.out p hp).bl; omega) (fun p hp => (HI2.out p hp).b)
    rw [Hps2.out] at hk13
    have K13 := Lib.hid hk13
    have htx := fun (w : World) (h : Flds w F2 m2 cF2 ps2) => last_txt h num 2
    have hbo : bOf (lastF fs num 2) = ((lastA ps2 num 2).getD noFA).f.b := by rw [bOf_getD, lastA_f, Hps2.out]
    have haT : aT (lastA ps2 num 2) = .slice ((lastA ps2 num 2).getD noFA).A ((lastA ps2 num 2).getD noFA).f.b.length ((lastA ps2 num 2).getD noFA).c := rfl
    rw [haT, hbo.symm] at hk9
    have K9 := Lib.hid hk9
    rw [hbo.symm] at htx
    generalize ((lastA ps2 num 2).getD noFA).A = TA2 at *
    generalize ((lastA ps2 num 2).getD noFA).c = tc2 at *
    have Htx := Lib.hid htx
    clear hk4 hk5 hk6 hk7 hk8 hk9 hk10 hk11 hk12 hk13 htx hbo haT HI1 HI2 Hps1 Hps2 Hp1 Hp2 Hin
    generalize zagS ((uOf (lastF fs num 0) : Nat) : Int) = z at *
    generalize uOf (lastF fs num 0) = u at *
    generalize (lastF fs num 0).isSome = b0 at *
    generalize (lastF fs num 2).isSome = b2 at *
    generalize bOf (lastF fs num 2) = tb at *
    generalize allF fs num = al at *
    generalize uintsR num fs [] = U at *
    obtain ⟨ul, ue⟩ := U
    go_wp2_with fail
    refine K4.out.mono ?_
    rintro e w4 ⟨rfl, b4⟩
    have Hg2 := Lib.hid (Hg2.out.keep b4)
    have B4 := Lib.hid (B3.out.trans (b4.mono B3.out.size))
    have Hg1 := Lib.hid (Hg1.out.keep b4)
    clear b4
    go_wp2_with fail
    refine (K5.out w4 Hg2.out).mono ?_
    rintro e w5 ⟨rfl, rfl⟩
    go_wp2_with fail
    refine (K6.out w4 Hg1.out).mono ?_
    rintro e w5 ⟨rfl, b5⟩
    have Hg2 := Lib.hid (Hg2.out.keep b5)
    have B5 := Lib.hid (B4.out.trans (b5.mono B4.out.size))
    have Hg1 := Lib.hid (Hg1.out.keep b5)
    clear b5
    go_wp2_with fail
    refine (K7.out w5 Hg2.out).mono ?_
    rintro e w6 ⟨rfl, rfl⟩
    go_wp2_with fail
    refine (K8.out w5 Hg1.out).mono ?_
    rintro e w6 ⟨T1, tc1, tl, rfl, htl, t6, b6⟩
    subst htl
    have Hg2 := Lib.hid (Hg2.out.keep b6)
    have B6 := Lib.hid (B5.out.trans (b6.mono B5.out.size))
    have Hg1 := Lib.hid (Hg1.out.keep b6)
    have T6 := Lib.hid t6
    clear b6 t6
    generalize htl : tb.length = tl at *
    have Htl := Lib.hid htl
    clear htl
    go_wp2_with fail
    refine (K9.out w6 Hg2.out).mono ?_
    rintro e w7 ⟨rfl, rfl⟩
    go_wp2_with fail
    refine (K10.out w6 Hg1.out).mono ?_
    rintro e w7 ⟨P, mp, cp, tp, rfl, hp7, htp, b7⟩
    have Htx7 := Lib.hid ((Htx.out w6 Hg2.out).keep b7)
    have Hg2 := Lib.hid (Hg2.out.keep b7)
    have B7 := Lib.hid (B6.out.trans (b7.mono B6.out.size))
    have Hg1 := Lib.hid (Hg1.out.keep b7)
    have T7 := Lib.hid (T6.out.keep b7)
    have Hrp := Lib.hid hp7
    have Htp := Lib.hid htp
    clear b7 hp7 htp
    go_wp2_with fail
    refine (K11.out w7 Hg2.out).mono ?_
    rintro e w8 ⟨Qa, mq, cq, tq, rfl, hq8, htq, b8⟩
    have hmpq : mq = mp := by
      have h1 := hq8.sl.len
      have h2 := Hrp.out.sl.len
      rw [List.length_map] at h1 h2
      have h3 := congrArg List.length (htq.trans Htp.out.symm)
      rw [List.length_map, List.length_map] at h3
      omega
    subst hmpq
    have Htx8 := Lib.hid (Htx7.out.keep b8)
    have Hg2 := Lib.hid (Hg2.out.keep b8)
    have B8 := Lib.hid (B7.out.trans (b8.mono B7.out.size))
    have Hg1 := Lib.hid (Hg1.out.keep b8)
    have T8 := Lib.hid (T7.out.keep b8)
    have Hq1 := Lib.hid hq8
    have Htq := Lib.hid htq
    have Hb8 := Lib.hid b8
    clear b8 hq8 htq
    go_wp2_with fail
    refine (K12.out w8 Hg1.out).mono ?_
    rintro e w9 ⟨X, mx, cX, rfl, hx9, b9⟩
    dsimp only at hx9
    have Htx9 := Lib.hid (Htx8.out.keep b9)
    have Hg2 := Lib.hid (Hg2.out.keep b9)
    have B9 := Lib.hid (B8.out.trans (b9.mono B8.out.size))
    have T9 := Lib.hid (T8.out.keep b9)
    have Hx9 := Lib.hid hx9
    have Hb9 := Lib.hid b9
    clear b9 hx9
    go_wp2_with fail
    refine (K13.out w9 Hg2.out).mono ?_
    rintro e w10 ⟨Y, my, cY, rfl, hy10, b10⟩
    dsimp only at hy10
    have hmxy : my = mx := by
      have h1 := hy10.len
      have h2 := Hx9.out.len
      rw [nats_length] at h1 h2
      omega
    subst hmxy
    have B10 := Lib.hid (B9.out.trans (b10.mono B9.out.size))
    have t10 := (T9.out.keep b10).sl
    have tx10 := (Htx9.out.keep b10).sl
    rw [Htl.out] at t10 tx10
    have q1 := run_convert_sl (P := Try.prog) Try.underlying22 Try.underlying5 Try.underlying9 t10
    have q2 := run_convert_sl (P := Try.prog) Try.underlying22 Try.underlying5 Try.underlying9 tx10
    have Hy := Lib.hid hy10
    have Hx := Lib.hid (Hx9.out.keep b10)
    have Hb10 := Lib.hid b10
    have hmq9 : mq ≤ 9223372036854775807 := by have h1 := Hrp.out.sl.le; have h2 := Hrp.out.sl.max; unfold maxLen at h2; omega
    have hmy9 : my ≤ 9223372036854775807 := by have h1 := hy10.le; have h2 := hy10.max; unfold maxLen at h2; omega
    have Hbp := Lib.hid (below_trans' Hb8.out (below_trans' Hb9.out b10))
    have Hbq := Lib.hid (below_trans' Hb9.out b10)
    clear b10 hy10 t10 tx10 K4 K5 K6 K7 K8 K9 K10 K11 K12 K13 Htx
    generalize strOf tb = str at *
    go_wp2_with fail
    go_loopw [27] (fun iv wr => ∃ j : Nat, j ≤ mq ∧ iv = .int .i64 (j : Int) ∧ ∃ q, wr = w10.drewN q) (fun iv _ => mq - (intOf iv).toNat)
    case atStart => exact ⟨0, Nat.zero_le _, rfl, 0, rfl⟩
    case round =>
      obtain ⟨j, hj, rfl, q, rfl⟩ := hrel
      clear q1 q2
      by_cases hlt2 : j < mq
      · obtain ⟨bx, ox, rfl, hbx, hcx⟩ := (Hrp.out.sl.keep (below_q Hbp.out q)).at_ (by omega)
        obtain ⟨br, or, rfl, _, hcr⟩ := (Hq1.out.sl.keep (below_q Hbq.out q)).at_ (by omega)
        have hjx : j < tp.length := by have := Hrp.out.sl.len; rw [List.length_map] at this; omega
        have hjt : j < tq.length := by have := Hq1.out.sl.len; rw [List.length_map] at this; omega
        have k1 := hcx j hlt2
        have k2 := hcr j hlt2
        rw [ta_getD' tp j hjx] at k1
        rw [ta_getD' tq j hjt] at k2
        have hsame : tp[j].b = tq[j].b := by
          have h1 := congrArg (fun z : List (List Nat) => z[j]?) (Htp.out.trans Htq.out.symm)
          simpa [hjx, hjt] using h1
        have sx := ((Hrp.out.txt _ (List.getElem_mem hjx)).keep (below_q Hbp.out q)).sl
        have sr := ((Hq1.out.txt _ (List.getElem_mem hjt)).keep (below_q Hbq.out q)).sl
        generalize tp[j] = x at *
        generalize tq[j] = y at *
        obtain ⟨xA, xc, xb⟩ := x
        obtain ⟨yA, yc, yb⟩ := y
        dsimp only at k1 k2 hsame sx sr
        subst hsame
        unfold TA.v at k1 k2
        dsimp only at k1 k2
        have q1 := run_convert_sl (P := Try.prog) Try.underlying22 Try.underlying5 Try.underlying9 sx
        have q2 := run_convert_sl (P := Try.prog) Try.underlying22 Try.underlying5 Try.underlying9 sr
        generalize strOf xb = str2 at *
        generalize xb.length = xl at *
        have q3 : (convert 22 9 (.slice xA xl xc)).run Try.prog (w10.drewN (q + 1)) = .ok (.string str2) (w10.drewN (q + 1)) := q1
        have q4 : (convert 22 9 (.slice yA xl yc)).run Try.prog (w10.drewN (q + 1)) = .ok (.string str2) (w10.drewN (q + 1)) := q2
        have k3 : w10.cell? ⟨bx, ox + j, none⟩ = _ := k1
        have k4 : w10.cell? ⟨br, or + j, none⟩ = _ := k2
        clear hcx hcr sx sr hjx hjt
        go_wp2_with fail
        go_region
        all_goals go_wp2_with fail
        all_goals (refine ⟨⟨j + 1, by omega, by go_num, q + 1, rfl⟩, by simp only [intOf]; omega⟩)
      · go_wp2_with fail
        go_loopw [28] (fun iv wr => ∃ i : Nat, i ≤ my ∧ iv = .int .i64 (i : Int) ∧ ∃ q, wr = w10.drewN q) (fun iv _ => my - (intOf iv).toNat)
        case atStart => exact ⟨0, Nat.zero_le _, rfl, q, rfl⟩
        case round =>
          obtain ⟨i, hi, rfl, q', rfl⟩ := hrel
          by_cases hlt3 : i < my
          · obtain ⟨bx, ox, rfl, hbx, hcx⟩ := Hx.out.at_ (by omega)
            obtain ⟨br, or, rfl, _, hcr⟩ := Hy.out.at_ (by omega)
            have h1 := hcx i hlt3
            have h2 := hcr i hlt3
            have hil : i < ul.length := by have := Hx.out.len; rw [nats_length] at this; omega
            rw [nats_getD _ _ _ hil] at h1 h2
            generalize ul.getD i 0 = y at *
            have c1 : ((w10.drewN q').drew).cell? ⟨bx, ox + i, none⟩ = some (.int .u64 (y : Int)) := h1
            have c2 : ((w10.drewN q').drew).cell? ⟨br, or + i, none⟩ = some (.int .u64 (y : Int)) := h2
            clear hcx hcr hil
            go_wp2_with fail
            go_region
            all_goals go_wp2_with fail
            all_goals (refine ⟨⟨i + 1, by omega, by go_num, q' + 1, rfl⟩, by simp only [intOf]; omega⟩)
          · go_wp2_with fail
            go_ret
            exact ⟨rfl, B10.out.trans ((below_drewN _ _).mono B10.out.size)⟩
  · have hn2 : 3000 < n := by omega
    clear hn hlen hb hbs
    go_enter Try.func3, Try.ntmps3
    go_wp2_with fail
    refine (known3 w).mono ?_
    rintro e w1 ⟨rfl, hb1⟩
    go_wp2_with fail
    go_ret
    exact ⟨rfl, hb1⟩
end Go.Proofs.Ytihclbiohljmlaa
