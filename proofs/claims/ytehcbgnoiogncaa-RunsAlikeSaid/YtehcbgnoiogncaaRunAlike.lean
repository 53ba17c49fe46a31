/- RunsAlike: the walk. -/
import Derived.Test.YtehcbgnoiogncaaRunOne
namespace Go.Proofs.Ytehcbgnoiogncaa
open Go.RowKit
open PackMath
set_option linter.unusedVariables false

def AlikeIn (v step n : Int) : Prop := (1 ≤ n ∧ n ≤ 512) ∧ (-1125899906842624 ≤ v ∧ v ≤ 1125899906842624) ∧ (-1125899906842624 ≤ step ∧ step ≤ 1125899906842624)
instance (v step n : Int) : Decidable (AlikeIn v step n) := by unfold AlikeIn; exact inferInstance
theorem or_192 (e : Nat) (h : e < 2) : bits .or .i64 192 (e : Int) = ((192 + e : Nat) : Int) := by
  have : e = 0 ∨ e = 1 := by omega
  rcases this with rfl | rfl <;> decide

set_option maxHeartbeats 3200000 in
set_option maxRecDepth 4000 in
theorem law_RunsAlike (v step n : Int) (w : World) (hv : -9223372036854775808 ≤ v ∧ v ≤ 9223372036854775807) (hs : -9223372036854775808 ≤ step ∧ step ≤ 9223372036854775807) (hn : -9223372036854775808 ≤ n ∧ n ≤ 9223372036854775807) :
    Calls Try.prog 8 #[.int .i64 v, .int .i64 step, .int .i64 n] w fun e w' => e = .returned (.bool true) ∧ Below w.heap.size w w' := by
  by_cases hin : AlikeIn v step n
  · obtain ⟨⟨n1, n2⟩, ⟨v1, v2⟩, ⟨s1, s2⟩⟩ := hin
    clear hv hs hn
    obtain ⟨N, rfl⟩ : ∃ N : Nat, n = (N : Int) := ⟨n.toNat, by omega⟩
    have hvI : InI v := by unfold InI; omega
    have hsI : InI step := by unfold InI; omega
    have hzv := zig_in v hvI
    have hzs := zig_in step hsI
    have hN1 : 1 ≤ N := by omega
    have hN2 : N ≤ 512 := by omega
    have HB8 := Lib.hid (alikeB_byte v step N hN1 hN2 hvI hsI)
    have HRun := Lib.hid (run_alike v step N hN1 hN2 ⟨v1, v2⟩ ⟨s1, s2⟩)
    have HDec := Lib.hid (dec_one _ _ true HRun.out (by rw [alike_length]; exact hN1) (by rw [alike_length]; omega))
    have hst := fun i hi => step_in v step i hi ⟨v1, v2⟩ ⟨s1, s2⟩
    have Hst := Lib.hid hst
    have Z1 := Lib.hid (fun W => zig_r v W hvI)
    have Z2 := Lib.hid (fun W => zig_r step W hsI)
    obtain ⟨zv, hzvN⟩ : ∃ zv : Nat, zigS v = (zv : Int) := ⟨(zigS v).toNat, by omega⟩
    obtain ⟨zs, hzsN⟩ : ∃ zs : Nat, zigS step = (zs : Int) := ⟨(zigS step).toNat, by omega⟩
    have HA := Lib.hid (show alikeB v step N = [192 + (N - 1) / 256, (N - 1) % 256] ++ varP zv ++ varP zs from by unfold alikeB; rw [hzvN, hzsN]; rfl)
    rw [hzvN] at Z1 hzv
    rw [hzsN] at Z2 hzs
    have hzv64 : zv < 18446744073709551616 := by omega
    have hzs64 : zs < 18446744073709551616 := by omega
    have e1 : ((N : Int) - 1) / 256 = (((N - 1) / 256 : Nat) : Int) := by omega
    have e2 := or_192 ((N - 1) / 256) (by omega)
    have e3 : ((192 + (N - 1) / 256 : Nat) : Int) % 256 = ((192 + (N - 1) / 256 : Nat) : Int) := by omega
    have e4 : ((N : Int) - 1) % 256 = (((N - 1) % 256 : Nat) : Int) := by omega
    obtain ⟨h0, hh0⟩ : ∃ x, x = 192 + (N - 1) / 256 := ⟨_, rfl⟩
    obtain ⟨h1, hh1⟩ : ∃ x, x = (N - 1) % 256 := ⟨_, rfl⟩
    obtain ⟨q, hq⟩ : ∃ x, x = (N - 1) / 256 := ⟨_, rfl⟩
    rw [← hq] at e1 e2 e3 hh0
    rw [← hh0] at e2 e3
    rw [← hh1] at e4
    have HH0 := Lib.hid hh0
    have HH1 := Lib.hid hh1
    have HQ := Lib.hid hq
    have E1 := Lib.hid e1
    have E2 := Lib.hid e2
    have E3 := Lib.hid e3
    have E4 := Lib.hid e4
    clear hst hzvN hzsN hh0 hh1 hq e1 e2 e3 e4
    obtain ⟨i0, hi, hz0, hz1, hz2⟩ := info_parts Try.info2
    go_enter Try.func8, Try.ntmps8
    go_wp2_with fail
    refine (known9 _).mono ?_
    rintro e w1 ⟨rfl, b1⟩
    have B1 := Lib.hid b1
    clear b1
    go_wp2_with fail
    rw [E1.out, E2.out, E3.out, E4.out]
    have o2 : (w1.alloc (.cells #[.int .u8 (h0 : Int), .int .u8 (h1 : Int)] 5)).ownsRow w1.heap.size 5 1 (.slice (some ⟨w1.heap.size, 0, none⟩) 2 2) 2 (nats .u8 [h0, h1]) := World.ownsRow_lit w1 #[.int .u8 (h0 : Int), .int .u8 (h1 : Int)] 2 (Nat.le_refl _) (by decide) rfl
    have B2 := Lib.hid (below_trans' B1.out ((Below.refl _ w1).alloc (Nat.le_refl _) (.cells #[.int .u8 (h0 : Int), .int .u8 (h1 : Int)] 5)))
    have hz2' : w1.heap.size ≤ (w1.alloc (.cells #[.int .u8 (h0 : Int), .int .u8 (h1 : Int)] 5)).heap.size := by simp
    have hww1 := B1.out.size
    generalize w1.alloc (.cells #[.int .u8 (h0 : Int), .int .u8 (h1 : Int)] 5) = w2 at *
    have O2 := Lib.hid o2
    clear o2
    refine (Z1.out _).mono ?_
    rintro e w3 ⟨rfl, rfl⟩
    go_wp2_with fail
    refine (putvar_r w1.heap.size 2 _ zv _ w2 O2.out hz2' hzv64 (by decide)).mono ?_
    rintro e w4 ⟨v4, rfl, o4, b4⟩
    have O4 := Lib.hid o4
    have B4 := Lib.hid b4
    have hz4 : w1.heap.size ≤ w4.heap.size := Nat.le_trans hz2' b4.size
    have hlv := varP_length zv
    have hls := varP_length zs
    clear o4 b4
    go_wp2_with fail
    refine (Z2.out _).mono ?_
    rintro e w5 ⟨rfl, rfl⟩
    go_wp2_with fail
    refine (putvar_r w1.heap.size _ _ zs _ w4 O4.out hz4 hzs64 (by omega)).mono ?_
    rintro e w5 ⟨v5, rfl, o5, b5⟩
    obtain ⟨A5, c5, rfl, s5⟩ := Sl.of_own o5 (nats_one _ _)
    rw [HH0.out, HH1.out, HQ.out, ← HA.out] at s5
    have hlen5 := s5.len
    rw [nats_length] at hlen5
    obtain ⟨L5, hL5⟩ : ∃ x, x = 2 + (varP zv).length + (varP zs).length := ⟨_, rfl⟩
    rw [← hL5] at s5 hlen5
    have hL5b : L5 ≤ 1000 := by omega
    have S5 := Lib.hid s5
    have B5 := Lib.hid (B2.out.trans ((B4.out.trans b5).mono hww1))
    have HL5 := Lib.hid hlen5
    rw [← hL5]
    clear s5 b5 o5 hlen5 hL5 hlv hls
    go_wp2_with fail
    go_loopw [9, 10] (fun ov iv wr => ∃ (i : Nat) (A' : Option Addr) (c' : Nat), i ≤ N ∧ ov = .slice A' i c' ∧ iv = .int .i64 (i : Int) ∧ Hid (wr.ownsRow w5.heap.size 2 1 (.slice A' i c') i (ints .i64 (alike v step i))) ∧ Hid (Below w5.heap.size w5 wr)) (fun _ iv _ => N - (intOf iv).toNat)
    case atStart => exact ⟨0, none, 0, Nat.zero_le _, rfl, rfl, Lib.hid (World.ownsRow_nil _ _ _ _), Lib.hid (Below.refl _ _)⟩
    case round =>
      obtain ⟨i, A', c', hiN, rfl, rfl, Ho, Hb⟩ := hrel
      by_cases hlt : i < N
      · obtain ⟨t1, t2, t3, t4⟩ := Hst.out i (by omega)
        obtain ⟨y, hy⟩ : ∃ y, y = v + (i : Int) * step := ⟨_, rfl⟩
        have hsz := Hb.out.size
        go_wp2_with (at_builtin; refine wpList_append_sl rfl _ _ 25 rfl w5.heap.size 2 i0 (.int .i64 0) 8 Try.underlying25 hi hz0 hz1 hz2 rfl _ i _ rfl (Ho.out.alloc _) (some ⟨wr.heap.size, 0, none⟩) 1 1 [.int .i64 (v + (i : Int) * step)] rfl (Sl.one_new wr (.int .i64 (v + (i : Int) * step)) _ rfl) ?c1 ?c2 ?c3 ?_)
        case c1 => unfold maxLen; omega
        case c2 => omega
        case c3 => simp; omega
        intro v6 w6 ho6 hb6 _ _
        obtain ⟨A6, c6, rfl, s6⟩ := Sl.of_own ho6 (fun u hu => (List.mem_append.1 hu).elim (ints_one _ _ u) (fun h => by simp at h; subst h; rfl))
        have H6 : Hid (w6.ownsRow w5.heap.size 2 1 (.slice A6 (i + 1) c6) (i + 1) (ints .i64 (alike v step (i + 1)))) := by
          have := ho6
          rw [alike_succ]
          unfold ints at this ⊢
          rw [List.map_append]; exact this
        have Hb6 := Lib.hid ((Hb.out.alloc hsz _).trans hb6)
        clear ho6 s6 hb6 t1 t2 t3 t4 hy
        go_wp2_with fail
        exact ⟨⟨i + 1, A6, c6, by omega, rfl, by first | rfl | simp, H6, Hb6⟩, by simp only [intOf]; omega⟩
      · have hiN' : i = N := by omega
        subst hiN'
        obtain ⟨A9, c9, hv9, s9⟩ := Sl.of_own Ho.out (ints_one _ _)
        injection hv9 with q1 q2 q3
        subst q1 q3
        have S9 := Lib.hid s9
        have hd := decode_p A5 L5 c5 _ (i : Int) true wr (S5.out.keep Hb.out) HB8.out (by omega)
        have hde := HDec.out
        rw [alike_length] at hde
        rw [hde] at hd
        have Hd := Lib.hid hd
        clear s9 hd hde
        go_wp2_with fail
        refine Hd.out.mono ?_
        rintro e w7 ⟨B7, cB7, rfl, s7, b7⟩
        dsimp only at s7 ⊢
        rw [alike_length] at s7 ⊢
        have S7 := Lib.hid s7
        have hr := run_all A5 L5 c5 _ 0 true w7 ((S5.out.keep Hb.out).keep b7) HB8.out (by omega) (by omega)
        rw [HRun.out] at hr
        have Hr := Lib.hid hr
        have B7 := Lib.hid b7
        clear s7 hr b7
        go_wp2_with fail
        refine Hr.out.mono ?_
        rintro e w8 ⟨B8, cB8, rfl, s8, b8, _⟩
        dsimp only at s8 ⊢
        rw [alike_length] at s8 ⊢
        rw [HL5.out]
        have S8 := Lib.hid s8
        have B8' := Lib.hid b8
        have K7 := Lib.hid (S7.out.keep b8)
        have K9 := Lib.hid ((S9.out.keep B7.out).keep b8)
        clear s8 b8
        go_wp2_with fail
        refine (sameI_yes _ _ _ _ _ _ w8 K7.out K9.out (by omega)).mono ?_
        rintro e w9 ⟨rfl, b9⟩
        have B9 := Lib.hid b9
        have K8 := Lib.hid (S8.out.keep b9)
        have K9' := Lib.hid (K9.out.keep b9)
        clear b9
        go_wp2_with fail
        refine (sameI_yes _ _ _ _ _ _ w9 K8.out K9'.out (by omega)).mono ?_
        rintro e w10 ⟨rfl, b10⟩
        have B10 := Lib.hid b10
        clear b10
        go_wp2_with fail
        go_ret
        exact ⟨rfl, below_trans' (below_trans' (below_trans' (below_trans' (below_trans' B5.out Hb.out) B7.out) B8'.out) B9.out) B10.out⟩
  · clear hv hs hn
    by_cases hc : n < 1
    · clear hin
      go_enter Try.func8, Try.ntmps8
      go_wp2_with fail
      refine (known9 _).mono ?_
      rintro e w1 ⟨rfl, b1⟩
      have B1 := Lib.hid b1
      clear b1
      go_wp2_with fail
      all_goals (go_ret; exact ⟨rfl, B1.out⟩)
    have h0 : ¬ n < 1 := hc
    clear hc
    by_cases hc : 512 < n
    · clear hin
      go_enter Try.func8, Try.ntmps8
      go_wp2_with fail
      refine (known9 _).mono ?_
      rintro e w1 ⟨rfl, b1⟩
      have B1 := Lib.hid b1
      clear b1
      go_wp2_with fail
      all_goals (go_ret; exact ⟨rfl, B1.out⟩)
    have h1 : ¬ 512 < n := hc
    clear hc
    by_cases hc : v < -1125899906842624
    · clear hin
      go_enter Try.func8, Try.ntmps8
      go_wp2_with fail
      refine (known9 _).mono ?_
      rintro e w1 ⟨rfl, b1⟩
      have B1 := Lib.hid b1
      clear b1
      go_wp2_with fail
      all_goals (go_ret; exact ⟨rfl, B1.out⟩)
    have h2 : ¬ v < -1125899906842624 := hc
    clear hc
    by_cases hc : 1125899906842624 < v
    · clear hin
      go_enter Try.func8, Try.ntmps8
      go_wp2_with fail
      refine (known9 _).mono ?_
      rintro e w1 ⟨rfl, b1⟩
      have B1 := Lib.hid b1
      clear b1
      go_wp2_with fail
      all_goals (go_ret; exact ⟨rfl, B1.out⟩)
    have h3 : ¬ 1125899906842624 < v := hc
    clear hc
    by_cases hc : step < -1125899906842624
    · clear hin
      go_enter Try.func8, Try.ntmps8
      go_wp2_with fail
      refine (known9 _).mono ?_
      rintro e w1 ⟨rfl, b1⟩
      have B1 := Lib.hid b1
      clear b1
      go_wp2_with fail
      all_goals (go_ret; exact ⟨rfl, B1.out⟩)
    have h4 : ¬ step < -1125899906842624 := hc
    clear hc
    by_cases hc : 1125899906842624 < step
    · clear hin
      go_enter Try.func8, Try.ntmps8
      go_wp2_with fail
      refine (known9 _).mono ?_
      rintro e w1 ⟨rfl, b1⟩
      have B1 := Lib.hid b1
      clear b1
      go_wp2_with fail
      all_goals (go_ret; exact ⟨rfl, B1.out⟩)
    have h5 : ¬ 1125899906842624 < step := hc
    clear hc
    exact absurd ⟨⟨by omega, by omega⟩, ⟨by omega, by omega⟩, ⟨by omega, by omega⟩⟩ hin
end Go.Proofs.Ytehcbgnoiogncaa
