/- RunsDelta: the walk. (Printed by gen/rundeltal.py.) -/
import Derived.Test.YtehcbgnoiogncaaRunDeltaM
import Derived.Test.YtehcbgnoiogncaaRow2
namespace Go.Proofs.Ytehcbgnoiogncaa
open Go.RowKit
open PackMath
set_option linter.unusedVariables false

theorem or_222 (e : Nat) (h : e < 2) : bits .or .i64 222 (e : Int) = ((222 + e : Nat) : Int) := by
  have : e = 0 ∨ e = 1 := by omega
  rcases this with rfl | rfl <;> decide

set_option maxHeartbeats 3200000 in
set_option maxRecDepth 4000 in
theorem delta_in_true (A : Option Addr) (n c : Nat) (S : List Nat) (v : Int) (w : World) (hl : Sl w A n c (nats .u16 S)) (hS : ∀ x ∈ S, x < 65536) (hn1 : 1 ≤ n) (hn2 : n ≤ 511) (hv : -1152921504606846976 ≤ v ∧ v ≤ 1152921504606846976) (hz : S.getD 0 0 ≠ 0) :
    Calls Try.prog 5 #[.int .i64 v, .slice A n c, .bool true] w fun e w' => e = .returned (.bool true) ∧ Below w.heap.size w w' := by
  have hlen := hl.len
  rw [nats_length] at hlen
  have hq : ((-1) : Int) = 1 ∨ ((-1) : Int) = -1 := by decide
  have hvI : InI v := by unfold InI; omega
  have hs0 := step0_in (-1) S hq hS (by omega)
  have hsI : InI ((-1) * ((S.getD 0 0 : Nat) : Int)) := by unfold InI; omega
  have hzv := zig_in v hvI
  have hzs := zig_in _ hsI
  have hB8 := deltaB_byte (-1) v S hvI hsI (by omega)
  have hRun := delta_run (-1) v S hq hS (by omega) (by omega) (fun _ => hz) hv
  have hDec := dec_one _ _ true hRun (by rw [psL_length]; omega) (by rw [psL_length]; omega)
  rw [psL_length, hlen] at hDec
  have hvT := fun i => vT_in (-1) v S i hS (by omega) hq hv
  have hvS := fun i (h : i < n) => vT_succ (-1) v S i (by omega)
  have HvT := Lib.hid hvT
  have HvS := Lib.hid hvS
  have HS := Lib.hid hS
  have Hl := Lib.hid hl
  have Hlen := Lib.hid hlen
  have HDec := Lib.hid hDec
  have HB8 := Lib.hid hB8
  obtain ⟨hv1, hv2⟩ := hv
  have Z1 := Lib.hid (fun W => zig_r v W hvI)
  have Z2 := Lib.hid (fun W => zig_r _ W hsI)
  obtain ⟨zv, hzvN⟩ : ∃ zv : Nat, zigS v = (zv : Int) := ⟨(zigS v).toNat, by omega⟩
  obtain ⟨zs, hzsN⟩ : ∃ zs : Nat, zigS ((-1) * ((S.getD 0 0 : Nat) : Int)) = (zs : Int) := ⟨(zigS ((-1) * ((S.getD 0 0 : Nat) : Int))).toNat, by omega⟩
  have HA := Lib.hid (show deltaB (-1) v S = hdB 3 15 n ++ varP zv ++ varP zs ++ putSpec (S.drop 1) 16 from by unfold deltaB; rw [hzvN, hzsN, hlen]; rfl)
  rw [hzvN] at Z1 hzv
  rw [hzsN] at Z2 hzs
  have hzv64 : zv < 18446744073709551616 := by omega
  have hzs64 : zs < 18446744073709551616 := by omega
  obtain ⟨b, off, hA, hbw, hcell⟩ := hl.at_ (by omega)
  have hcell2 : ∀ j, j < n → w.cell? ⟨b, off + j, none⟩ = some (.int .u16 ((S.getD j 0 : Nat) : Int)) := fun j hj => by rw [hcell j hj, nats_getD _ _ _ (by omega)]
  have hs16 : ∀ j, j < n → S.getD j 0 < 65536 := fun j hj => by rw [getD_eq _ _ (by omega)]; exact hS _ (List.getElem_mem _)
  have Hcell := Lib.hid hcell2
  have Hs16 := Lib.hid hs16
  have e2 := or_222 (n / 256) (by omega)
  rw [show ((n / 256 : Nat) : Int) = (n : Int) / 256 from by omega] at e2
  have E2 := Lib.hid e2
  have E3 := Lib.hid (show ((222 + n / 256 : Nat) : Int) % 256 = ((222 + n / 256 : Nat) : Int) by omega)
  have E4 := Lib.hid (show (n : Int) % 256 = ((n % 256 : Nat) : Int) by omega)
  subst hA
  clear hl hS hlen hq hs0 hB8 hRun hDec hvT hvS hzvN hzsN hcell hcell2 hs16 e2 hsI
  obtain ⟨i0, hi, hz0, hz1, hz2⟩ := info_parts Try.info2
  obtain ⟨j0, hj, hy0, hy1, hy2⟩ := info_parts Try.info26
  have q1 : ((n : Int) == 0) = false := beq_eq_false_iff_ne.2 (by omega)
  have q2 : decide ((511 : Int) < (n : Int)) = false := decide_eq_false (by omega)
  have q3 : decide (v < -1152921504606846976) = false := decide_eq_false (by omega)
  have q4 : decide ((1152921504606846976 : Int) < v) = false := decide_eq_false (by omega)
  go_enter Try.func5, Try.ntmps5
  go_wp2_with fail
  refine (known9 _).mono ?_
  rintro e w1 ⟨rfl, b1⟩
  have B1 := Lib.hid b1
  have hbw1 : b < w1.heap.size := Nat.lt_of_lt_of_le hbw b1.size
  have Hc1 := Lib.hid (fun j (h : j < n) => (b1.cell (p := ⟨b, off + j, none⟩) hbw).trans (Hcell.out j h))
  have hk0 : w1.cell? ⟨b, off, none⟩ = some (.int .u16 ((S.getD 0 0 : Nat) : Int)) := Hc1.out 0 (by omega)
  have hk1 : w1.cell? ⟨b, off + 0, none⟩ = some (.int .u16 ((S.getD 0 0 : Nat) : Int)) := Hc1.out 0 (by omega)
  have hs0 := Hs16.out 0 (by omega)
  have hz' : (((S.getD 0 0 : Nat) : Int) == 0) = false := beq_eq_false_iff_ne.2 (by omega)
  generalize hs0e : S.getD 0 0 = s0 at *
  have HS0 := Lib.hid hs0e
  clear b1 hs0e hz
  go_wp2_with fail
  have o2 : (w1.alloc (.cells #[.int .i64 v] 2)).ownsRow w1.heap.size 2 1 (.slice (some ⟨w1.heap.size, 0, none⟩) 1 1) 1 (ints .i64 (psL (-1) v S 0)) := by
    rw [psL_zero]; exact World.ownsRow_lit w1 #[.int .i64 v] 1 (Nat.le_refl _) (by decide) rfl
  have B2 := Lib.hid (below_new w1 (.cells #[.int .i64 v] 2))
  have O2 := Lib.hid o2
  clear o2 hk0 hk1
  generalize hw2 : w1.alloc (.cells #[.int .i64 v] 2) = w2 at *
  have HW2 := Lib.hid hw2
  clear hw2
  go_loopw [7, 8, 9] (fun lv xv iv wr => ∃ (i : Nat) (A1 : Option Addr) (c1 : Nat) (A2 : Option Addr) (c2 : Nat), i ≤ n ∧ lv = .slice A1 (i + 1) c1 ∧ xv = .slice A2 (i - 1) c2 ∧ iv = .int .i64 (i : Int) ∧ Hid (wr.ownsRow w1.heap.size 2 1 (.slice A1 (i + 1) c1) (i + 1) (ints .i64 (psL (-1) v S i))) ∧ Hid (wr.ownsRow w1.heap.size 26 1 (.slice A2 (i - 1) c2) (i - 1) (nats .u64 (tailS S i))) ∧ Hid (Apart (.slice A1 (i + 1) c1) (.slice A2 (i - 1) c2)) ∧ Hid (Below w1.heap.size w1 wr)) (fun _ _ iv _ => n - (intOf iv).toNat)
  case atStart => exact ⟨0, _, 1, none, 0, Nat.zero_le _, rfl, rfl, rfl, O2, Lib.hid (by unfold tailS; exact World.ownsRow_nil _ _ _ _), Lib.hid (fun k _ h => by cases h), B2⟩
  case round =>
    obtain ⟨i, A1, c1, A2, c2, hin, rfl, rfl, rfl, Ho, Hx, Hap, Hbl⟩ := hrel
    have hsz := Hbl.out.size
    by_cases hlt : i < n
    · have hci : wr.cell? ⟨b, off + i, none⟩ = some (.int .u16 ((S.getD i 0 : Nat) : Int)) := (Hbl.out.cell (p := ⟨b, off + i, none⟩) hbw1).trans (Hc1.out i hlt)
      have hsi := Hs16.out i hlt
      have hyb := HvT.out i
      have hyb1 := HvT.out (i + 1)
      have hye := HvS.out i hlt
      have Hts := Lib.hid (fun h1 => tailS_succ S i (by rw [Hlen.out]; exact hlt) h1)
      generalize hse : S.getD i 0 = s at *
      obtain ⟨y, hy⟩ : ∃ y, y = vT (-1) v S i := ⟨_, rfl⟩
      obtain ⟨g1, cp1, hA1, hg1, hgs1⟩ := Ho.out.form (by omega)
      injection hA1 with hA1 _ hcc
      subst hA1 hcc
      have hcy := Ho.out.cellAt i (by omega)
      rw [ints, List.getElem?_map, List.getElem?_eq_getElem (by rw [psL_length]; omega), Option.map_some, ← getDI_eq _ _ (by rw [psL_length]; omega), psL_getD, ← hy] at hcy
      rw [← hy] at hyb hye
      rw [hye] at hyb1
      have HY' := Lib.hid (show vT (-1) v S (i + 1) = y + -(s : Int) from by rw [hye]; omega)
      have hr1 : -9223372036854775808 ≤ y + -(s : Int) := by omega
      have hr2 : y + -(s : Int) ≤ 9223372036854775807 := by omega
      clear hye hyb1 hy hse
      go_wp2_with (at_builtin; refine wpList_append_sl rfl _ _ 25 rfl w1.heap.size 2 i0 (.int .i64 0) 8 Try.underlying25 hi hz0 hz1 hz2 rfl _ (i + 1) _ rfl (Ho.out.alloc _) (some ⟨wr.heap.size, 0, none⟩) 1 1 [.int .i64 (y + -(s : Int))] rfl (Sl.one_new wr (.int .i64 (y + -(s : Int))) _ rfl) ?c1 ?c2 ?c3 ?_)
      case c1 => unfold maxLen; omega
      case c2 => omega
      case c3 => first | omega | (simp; omega)
      intro v6 w6 ho6 hb6 hg6 hv6
      have hx6 := (Hx.out.alloc _).kept hg6 Hap.out.kept
      have hap6 := Hap.out.grow (Hx.out.alloc (.cells #[.int .i64 (y + -(s : Int))] 2)) (by rw [World.size_alloc]; exact hv6)
      obtain ⟨A6, c6, rfl, s6⟩ := Sl.of_own ho6 (fun u hu => (List.mem_append.1 hu).elim (ints_one _ _ u) (fun h => by simp at h; subst h; rfl))
      have H6 : Hid (w6.ownsRow w1.heap.size 2 1 (.slice A6 (i + 1 + 1) c6) (i + 1 + 1) (ints .i64 (psL (-1) v S (i + 1)))) := by
        have := ho6
        rw [psL_succ, HY'.out]
        unfold ints at this ⊢
        rw [List.map_append]; exact this
      have Hb6 := Lib.hid ((Hbl.out.alloc hsz _).trans hb6)
      have Hx6 := Lib.hid hx6
      have Hap6 := Lib.hid hap6
      have hsz6 := Hb6.out.size
      have hc6 : w6.cell? ⟨b, off + i, none⟩ = some (.int .u16 (s : Int)) := (hb6.cell (p := ⟨b, off + i, none⟩) hbw1).trans (((below_new wr _).cell (p := ⟨b, off + i, none⟩) (Nat.lt_of_lt_of_le hbw1 hsz)).trans hci)
      clear ho6 s6 hb6 hg6 hv6 hx6 hap6 hci hcy
      by_cases hi0 : 0 < i
      · have e1 : i + 1 - 1 = i - 1 + 1 := by omega
        have hts := Hts.out hi0
        have HT := Lib.hid hts
        have hsv1 : (0 : Int) ≤ (s : Int) := by omega
        go_wp2_with (at_builtin; refine wpList_append_sl rfl _ _ 22 rfl w1.heap.size 26 j0 (.int .u64 0) 8 Try.underlying22 hj hy0 hy1 hy2 rfl _ (i - 1) _ rfl (Hx6.out.alloc _) (some ⟨w6.heap.size, 0, none⟩) 1 1 [.int .u64 (s : Int)] rfl (Sl.one_new w6 (.int .u64 (s : Int)) _ rfl) ?d1 ?d2 ?d3 ?_)
        case d1 => unfold maxLen; omega
        case d2 => omega
        case d3 => first | omega | (simp; omega)
        intro v7 w7 ho7 hb7 hg7 hv7
        have h67 := (H6.out.alloc _).kept hg7 Hap6.out.symm.kept
        have hap7 := (Hap6.out.symm.grow (H6.out.alloc (.cells #[.int .u64 (s : Int)] 26)) (by rw [World.size_alloc]; exact hv7)).symm
        obtain ⟨A7, c7, rfl, s7⟩ := Sl.of_own ho7 (fun u hu => (List.mem_append.1 hu).elim (nats_one _ _ u) (fun h => by simp at h; subst h; rfl))
        have H7 : Hid (w7.ownsRow w1.heap.size 26 1 (.slice A7 (i - 1 + 1) c7) (i - 1 + 1) (nats .u64 (tailS S (i + 1)))) := by
          have := ho7
          rw [HT.out]
          unfold nats at this ⊢
          rw [List.map_append]; exact this
        have Hb7 := Lib.hid ((Hb6.out.alloc hsz6 _).trans hb7)
        have H67 := Lib.hid h67
        have Hap7 := Lib.hid hap7
        clear ho7 s7 hb7 hg7 hv7 h67 hap7 hts
        go_wp2_with fail
        refine ⟨⟨i + 1, A6, c6, A7, c7, by omega, rfl, by rw [e1], by first | rfl | simp, H67, ?_, ?_, Hb7⟩, by simp only [intOf]; omega⟩
        · rw [e1]; exact H7
        · rw [e1]; exact Hap7
      · obtain rfl : i = 0 := by omega
        go_wp2_with fail
        refine ⟨⟨1, A6, c6, A2, c2, by omega, rfl, rfl, by first | rfl | simp, H6, ?_, Hap6, Hb6⟩, by simp only [intOf]; omega⟩
        rw [tailS_one]
        have := Hx6.out
        unfold tailS at this
        exact Lib.hid this
    · have hin' : i = n := by omega
      subst hin'
      clear hlt hin
      have SL := Lib.hid (Sl.of_own' Ho.out (ints_one _ _))
      have SX := Lib.hid (show Sl wr A2 (i - 1) c2 (nats .u64 (S.drop 1)) from by rw [← tailS_all S i Hlen.out]; exact Sl.of_own' Hx.out (nats_one _ _))
      have hk2 : ∀ o, (wr.alloc o).cell? ⟨b, off, none⟩ = some (.int .u16 (s0 : Int)) := fun o => ((below_new wr o).cell (p := ⟨b, off, none⟩) (Nat.lt_of_lt_of_le hbw1 hsz)).trans ((Hbl.out.cell (p := ⟨b, off, none⟩) hbw1).trans (by have := Hc1.out 0 (by omega); rw [HS0.out] at this; exact this))
      rw [show (-1) * (s0 : Int) = -(s0 : Int) from by omega] at Z2
      clear Ho Hx Hap
      go_wp2_with fail
      rw [E2.out, E3.out, E4.out]
      have o3 : (wr.alloc (.cells #[.int .u8 ((222 + i / 256 : Nat) : Int), .int .u8 ((i % 256 : Nat) : Int)] 5)).ownsRow wr.heap.size 5 1 (.slice (some ⟨wr.heap.size, 0, none⟩) 2 2) 2 (nats .u8 (hdB 3 15 i)) := World.ownsRow_lit wr #[.int .u8 ((222 + i / 256 : Nat) : Int), .int .u8 ((i % 256 : Nat) : Int)] 2 (Nat.le_refl _) (by decide) rfl
      have bn := below_new wr (.cells #[.int .u8 ((222 + i / 256 : Nat) : Int), .int .u8 ((i % 256 : Nat) : Int)] 5)
      have hz3 : wr.heap.size ≤ (wr.alloc (.cells #[.int .u8 ((222 + i / 256 : Nat) : Int), .int .u8 ((i % 256 : Nat) : Int)] 5)).heap.size := by simp
      have B3 := Lib.hid bn
      obtain ⟨h0, hh0⟩ : ∃ h0, h0 = 222 + i / 256 := ⟨_, rfl⟩
      obtain ⟨h1, hh1⟩ : ∃ h1, h1 = i % 256 := ⟨_, rfl⟩
      rw [← hh0, ← hh1] at o3 hz3 B3 ⊢
      generalize wr.alloc (.cells #[.int .u8 (h0 : Int), .int .u8 (h1 : Int)] 5) = w3 at *
      have O3 := Lib.hid o3
      clear o3 bn hh0 hh1 E2 E3 E4 hk2
      refine (Z1.out _).mono ?_
      rintro e w4 ⟨rfl, rfl⟩
      go_wp2_with fail
      refine (putvar_r wr.heap.size 2 _ zv _ w3 O3.out hz3 hzv64 (by decide)).mono ?_
      rintro e w4 ⟨v4, rfl, o4, b4⟩
      have O4 := Lib.hid o4
      have B4 := Lib.hid (B3.out.trans b4)
      have hz4 : wr.heap.size ≤ w4.heap.size := Nat.le_trans hz3 b4.size
      have hlv := varP_length zv
      have hls := varP_length zs
      clear o4 b4
      go_wp2_with fail
      refine (Z2.out _).mono ?_
      rintro e w5 ⟨rfl, rfl⟩
      go_wp2_with fail
      refine (putvar_r wr.heap.size _ _ zs _ w4 O4.out hz4 hzs64 (by omega)).mono ?_
      rintro e w5 ⟨v5, rfl, o5, b5⟩
      have B5 := Lib.hid (B4.out.trans b5)
      obtain ⟨A5, c5, rfl, s5⟩ := Sl.of_own o5 (nats_one _ _)
      obtain ⟨L5, hL5⟩ : ∃ x, x = 2 + (varP zv).length + (varP zs).length := ⟨_, rfl⟩
      rw [← hL5] at s5 ⊢
      have hL5b : L5 ≤ 1000 := by omega
      have S5 := Lib.hid s5
      clear s5 o5 b5 hL5 hlv hls
      go_wp2_with fail
      refine (rput_ok A5 L5 c5 _ A2 (i - 1) c2 (S.drop 1) 16 w5 S5.out (SX.out.keep B5.out) (fun x hx => Nat.lt_trans (HS.out x (List.mem_of_mem_drop hx)) (by decide)) (by decide) (by omega)).mono ?_
      rintro e w6 ⟨A6, m6, c6, rfl, s6, b6⟩
      rw [← HA.out] at s6
      have hm6 := s6.len
      rw [nats_length] at hm6
      have hm6' : m6 ≤ 1000000000 := by
        have h1 := S5.out.len
        have h2 := congrArg List.length HA.out
        rw [nats_length] at h1
        rw [List.length_append, putSpec_len, List.length_drop, Hlen.out] at h2
        unfold nbytes at h2
        omega
      have hd := decode_p A6 m6 c6 _ ((i + 1 : Nat) : Int) true w6 s6 HB8.out hm6'
      rw [HDec.out] at hd
      have Hd := Lib.hid hd
      have B6 := Lib.hid (below_trans' Hbl.out (below_trans' B5.out b6))
      have S6 := Lib.hid ((SL.out.keep B5.out).keep b6)
      clear s6 b6 hm6 hm6' hd
      go_wp2_with fail
      refine Hd.out.mono ?_
      rintro e w7 ⟨A7, c7, rfl, s7, b7⟩
      dsimp only at s7 ⊢
      rw [psL_length] at s7 ⊢
      have S7 := Lib.hid s7
      have B7 := Lib.hid b7
      have S8 := Lib.hid (S6.out.keep b7)
      clear s7 b7
      go_wp2_with fail
      refine (sameI_yes _ _ _ _ _ _ w7 S7.out S8.out (by omega)).mono ?_
      rintro e w8 ⟨rfl, b8⟩
      have B8 := Lib.hid b8
      clear b8
      go_wp2_with fail
      go_ret
      exact ⟨rfl, below_trans' B1.out (below_trans' (below_trans' B6.out B7.out) B8.out)⟩

set_option maxHeartbeats 3200000 in
set_option maxRecDepth 4000 in
theorem delta_in_false (A : Option Addr) (n c : Nat) (S : List Nat) (v : Int) (w : World) (hl : Sl w A n c (nats .u16 S)) (hS : ∀ x ∈ S, x < 65536) (hn1 : 1 ≤ n) (hn2 : n ≤ 511) (hv : -1152921504606846976 ≤ v ∧ v ≤ 1152921504606846976) (hz : True) :
    Calls Try.prog 5 #[.int .i64 v, .slice A n c, .bool false] w fun e w' => e = .returned (.bool true) ∧ Below w.heap.size w w' := by
  have hlen := hl.len
  rw [nats_length] at hlen
  have hq : (1 : Int) = 1 ∨ (1 : Int) = -1 := by decide
  have hvI : InI v := by unfold InI; omega
  have hs0 := step0_in 1 S hq hS (by omega)
  have hsI : InI (1 * ((S.getD 0 0 : Nat) : Int)) := by unfold InI; omega
  have hzv := zig_in v hvI
  have hzs := zig_in _ hsI
  have hB8 := deltaB_byte 1 v S hvI hsI (by omega)
  have hRun := delta_run 1 v S hq hS (by omega) (by omega) (fun h => absurd h (by decide)) hv
  have hDec := dec_one _ _ true hRun (by rw [psL_length]; omega) (by rw [psL_length]; omega)
  rw [psL_length, hlen] at hDec
  have hvT := fun i => vT_in 1 v S i hS (by omega) hq hv
  have hvS := fun i (h : i < n) => vT_succ 1 v S i (by omega)
  have HvT := Lib.hid hvT
  have HvS := Lib.hid hvS
  have HS := Lib.hid hS
  have Hl := Lib.hid hl
  have Hlen := Lib.hid hlen
  have HDec := Lib.hid hDec
  have HB8 := Lib.hid hB8
  obtain ⟨hv1, hv2⟩ := hv
  have Z1 := Lib.hid (fun W => zig_r v W hvI)
  have Z2 := Lib.hid (fun W => zig_r _ W hsI)
  obtain ⟨zv, hzvN⟩ : ∃ zv : Nat, zigS v = (zv : Int) := ⟨(zigS v).toNat, by omega⟩
  obtain ⟨zs, hzsN⟩ : ∃ zs : Nat, zigS (1 * ((S.getD 0 0 : Nat) : Int)) = (zs : Int) := ⟨(zigS (1 * ((S.getD 0 0 : Nat) : Int))).toNat, by omega⟩
  have HA := Lib.hid (show deltaB 1 v S = hdB 3 15 n ++ varP zv ++ varP zs ++ putSpec (S.drop 1) 16 from by unfold deltaB; rw [hzvN, hzsN, hlen]; rfl)
  rw [hzvN] at Z1 hzv
  rw [hzsN] at Z2 hzs
  have hzv64 : zv < 18446744073709551616 := by omega
  have hzs64 : zs < 18446744073709551616 := by omega
  obtain ⟨b, off, hA, hbw, hcell⟩ := hl.at_ (by omega)
  have hcell2 : ∀ j, j < n → w.cell? ⟨b, off + j, none⟩ = some (.int .u16 ((S.getD j 0 : Nat) : Int)) := fun j hj => by rw [hcell j hj, nats_getD _ _ _ (by omega)]
  have hs16 : ∀ j, j < n → S.getD j 0 < 65536 := fun j hj => by rw [getD_eq _ _ (by omega)]; exact hS _ (List.getElem_mem _)
  have Hcell := Lib.hid hcell2
  have Hs16 := Lib.hid hs16
  have e2 := or_222 (n / 256) (by omega)
  rw [show ((n / 256 : Nat) : Int) = (n : Int) / 256 from by omega] at e2
  have E2 := Lib.hid e2
  have E3 := Lib.hid (show ((222 + n / 256 : Nat) : Int) % 256 = ((222 + n / 256 : Nat) : Int) by omega)
  have E4 := Lib.hid (show (n : Int) % 256 = ((n % 256 : Nat) : Int) by omega)
  subst hA
  clear hl hS hlen hq hs0 hB8 hRun hDec hvT hvS hzvN hzsN hcell hcell2 hs16 e2 hsI
  obtain ⟨i0, hi, hz0, hz1, hz2⟩ := info_parts Try.info2
  obtain ⟨j0, hj, hy0, hy1, hy2⟩ := info_parts Try.info26
  have q1 : ((n : Int) == 0) = false := beq_eq_false_iff_ne.2 (by omega)
  have q2 : decide ((511 : Int) < (n : Int)) = false := decide_eq_false (by omega)
  have q3 : decide (v < -1152921504606846976) = false := decide_eq_false (by omega)
  have q4 : decide ((1152921504606846976 : Int) < v) = false := decide_eq_false (by omega)
  go_enter Try.func5, Try.ntmps5
  go_wp2_with fail
  refine (known9 _).mono ?_
  rintro e w1 ⟨rfl, b1⟩
  have B1 := Lib.hid b1
  have hbw1 : b < w1.heap.size := Nat.lt_of_lt_of_le hbw b1.size
  have Hc1 := Lib.hid (fun j (h : j < n) => (b1.cell (p := ⟨b, off + j, none⟩) hbw).trans (Hcell.out j h))
  have hk0 : w1.cell? ⟨b, off, none⟩ = some (.int .u16 ((S.getD 0 0 : Nat) : Int)) := Hc1.out 0 (by omega)
  have hk1 : w1.cell? ⟨b, off + 0, none⟩ = some (.int .u16 ((S.getD 0 0 : Nat) : Int)) := Hc1.out 0 (by omega)
  have hs0 := Hs16.out 0 (by omega)
  have hz' : True := trivial
  generalize hs0e : S.getD 0 0 = s0 at *
  have HS0 := Lib.hid hs0e
  clear b1 hs0e hz
  go_wp2_with fail
  have o2 : (w1.alloc (.cells #[.int .i64 v] 2)).ownsRow w1.heap.size 2 1 (.slice (some ⟨w1.heap.size, 0, none⟩) 1 1) 1 (ints .i64 (psL 1 v S 0)) := by
    rw [psL_zero]; exact World.ownsRow_lit w1 #[.int .i64 v] 1 (Nat.le_refl _) (by decide) rfl
  have B2 := Lib.hid (below_new w1 (.cells #[.int .i64 v] 2))
  have O2 := Lib.hid o2
  clear o2 hk0 hk1
  generalize hw2 : w1.alloc (.cells #[.int .i64 v] 2) = w2 at *
  have HW2 := Lib.hid hw2
  clear hw2
  go_loopw [7, 8, 9] (fun lv xv iv wr => ∃ (i : Nat) (A1 : Option Addr) (c1 : Nat) (A2 : Option Addr) (c2 : Nat), i ≤ n ∧ lv = .slice A1 (i + 1) c1 ∧ xv = .slice A2 (i - 1) c2 ∧ iv = .int .i64 (i : Int) ∧ Hid (wr.ownsRow w1.heap.size 2 1 (.slice A1 (i + 1) c1) (i + 1) (ints .i64 (psL 1 v S i))) ∧ Hid (wr.ownsRow w1.heap.size 26 1 (.slice A2 (i - 1) c2) (i - 1) (nats .u64 (tailS S i))) ∧ Hid (Apart (.slice A1 (i + 1) c1) (.slice A2 (i - 1) c2)) ∧ Hid (Below w1.heap.size w1 wr)) (fun _ _ iv _ => n - (intOf iv).toNat)
  case atStart => exact ⟨0, _, 1, none, 0, Nat.zero_le _, rfl, rfl, rfl, O2, Lib.hid (by unfold tailS; exact World.ownsRow_nil _ _ _ _), Lib.hid (fun k _ h => by cases h), B2⟩
  case round =>
    obtain ⟨i, A1, c1, A2, c2, hin, rfl, rfl, rfl, Ho, Hx, Hap, Hbl⟩ := hrel
    have hsz := Hbl.out.size
    by_cases hlt : i < n
    · have hci : wr.cell? ⟨b, off + i, none⟩ = some (.int .u16 ((S.getD i 0 : Nat) : Int)) := (Hbl.out.cell (p := ⟨b, off + i, none⟩) hbw1).trans (Hc1.out i hlt)
      have hsi := Hs16.out i hlt
      have hyb := HvT.out i
      have hyb1 := HvT.out (i + 1)
      have hye := HvS.out i hlt
      have Hts := Lib.hid (fun h1 => tailS_succ S i (by rw [Hlen.out]; exact hlt) h1)
      generalize hse : S.getD i 0 = s at *
      obtain ⟨y, hy⟩ : ∃ y, y = vT 1 v S i := ⟨_, rfl⟩
      obtain ⟨g1, cp1, hA1, hg1, hgs1⟩ := Ho.out.form (by omega)
      injection hA1 with hA1 _ hcc
      subst hA1 hcc
      have hcy := Ho.out.cellAt i (by omega)
      rw [ints, List.getElem?_map, List.getElem?_eq_getElem (by rw [psL_length]; omega), Option.map_some, ← getDI_eq _ _ (by rw [psL_length]; omega), psL_getD, ← hy] at hcy
      rw [← hy] at hyb hye
      rw [hye] at hyb1
      have HY' := Lib.hid (show vT 1 v S (i + 1) = y + (s : Int) from by rw [hye]; omega)
      have hr1 : -9223372036854775808 ≤ y + (s : Int) := by omega
      have hr2 : y + (s : Int) ≤ 9223372036854775807 := by omega
      clear hye hyb1 hy hse
      go_wp2_with (at_builtin; refine wpList_append_sl rfl _ _ 25 rfl w1.heap.size 2 i0 (.int .i64 0) 8 Try.underlying25 hi hz0 hz1 hz2 rfl _ (i + 1) _ rfl (Ho.out.alloc _) (some ⟨wr.heap.size, 0, none⟩) 1 1 [.int .i64 (y + (s : Int))] rfl (Sl.one_new wr (.int .i64 (y + (s : Int))) _ rfl) ?c1 ?c2 ?c3 ?_)
      case c1 => unfold maxLen; omega
      case c2 => omega
      case c3 => first | omega | (simp; omega)
      intro v6 w6 ho6 hb6 hg6 hv6
      have hx6 := (Hx.out.alloc _).kept hg6 Hap.out.kept
      have hap6 := Hap.out.grow (Hx.out.alloc (.cells #[.int .i64 (y + (s : Int))] 2)) (by rw [World.size_alloc]; exact hv6)
      obtain ⟨A6, c6, rfl, s6⟩ := Sl.of_own ho6 (fun u hu => (List.mem_append.1 hu).elim (ints_one _ _ u) (fun h => by simp at h; subst h; rfl))
      have H6 : Hid (w6.ownsRow w1.heap.size 2 1 (.slice A6 (i + 1 + 1) c6) (i + 1 + 1) (ints .i64 (psL 1 v S (i + 1)))) := by
        have := ho6
        rw [psL_succ, HY'.out]
        unfold ints at this ⊢
        rw [List.map_append]; exact this
      have Hb6 := Lib.hid ((Hbl.out.alloc hsz _).trans hb6)
      have Hx6 := Lib.hid hx6
      have Hap6 := Lib.hid hap6
      have hsz6 := Hb6.out.size
      have hc6 : w6.cell? ⟨b, off + i, none⟩ = some (.int .u16 (s : Int)) := (hb6.cell (p := ⟨b, off + i, none⟩) hbw1).trans (((below_new wr _).cell (p := ⟨b, off + i, none⟩) (Nat.lt_of_lt_of_le hbw1 hsz)).trans hci)
      clear ho6 s6 hb6 hg6 hv6 hx6 hap6 hci hcy
      by_cases hi0 : 0 < i
      · have e1 : i + 1 - 1 = i - 1 + 1 := by omega
        have hts := Hts.out hi0
        have HT := Lib.hid hts
        have hsv1 : (0 : Int) ≤ (s : Int) := by omega
        go_wp2_with (at_builtin; refine wpList_append_sl rfl _ _ 22 rfl w1.heap.size 26 j0 (.int .u64 0) 8 Try.underlying22 hj hy0 hy1 hy2 rfl _ (i - 1) _ rfl (Hx6.out.alloc _) (some ⟨w6.heap.size, 0, none⟩) 1 1 [.int .u64 (s : Int)] rfl (Sl.one_new w6 (.int .u64 (s : Int)) _ rfl) ?d1 ?d2 ?d3 ?_)
        case d1 => unfold maxLen; omega
        case d2 => omega
        case d3 => first | omega | (simp; omega)
        intro v7 w7 ho7 hb7 hg7 hv7
        have h67 := (H6.out.alloc _).kept hg7 Hap6.out.symm.kept
        have hap7 := (Hap6.out.symm.grow (H6.out.alloc (.cells #[.int .u64 (s : Int)] 26)) (by rw [World.size_alloc]; exact hv7)).symm
        obtain ⟨A7, c7, rfl, s7⟩ := Sl.of_own ho7 (fun u hu => (List.mem_append.1 hu).elim (nats_one _ _ u) (fun h => by simp at h; subst h; rfl))
        have H7 : Hid (w7.ownsRow w1.heap.size 26 1 (.slice A7 (i - 1 + 1) c7) (i - 1 + 1) (nats .u64 (tailS S (i + 1)))) := by
          have := ho7
          rw [HT.out]
          unfold nats at this ⊢
          rw [List.map_append]; exact this
        have Hb7 := Lib.hid ((Hb6.out.alloc hsz6 _).trans hb7)
        have H67 := Lib.hid h67
        have Hap7 := Lib.hid hap7
        clear ho7 s7 hb7 hg7 hv7 h67 hap7 hts
        go_wp2_with fail
        refine ⟨⟨i + 1, A6, c6, A7, c7, by omega, rfl, by rw [e1], by first | rfl | simp, H67, ?_, ?_, Hb7⟩, by simp only [intOf]; omega⟩
        · rw [e1]; exact H7
        · rw [e1]; exact Hap7
      · obtain rfl : i = 0 := by omega
        go_wp2_with fail
        refine ⟨⟨1, A6, c6, A2, c2, by omega, rfl, rfl, by first | rfl | simp, H6, ?_, Hap6, Hb6⟩, by simp only [intOf]; omega⟩
        rw [tailS_one]
        have := Hx6.out
        unfold tailS at this
        exact Lib.hid this
    · have hin' : i = n := by omega
      subst hin'
      clear hlt hin
      have SL := Lib.hid (Sl.of_own' Ho.out (ints_one _ _))
      have SX := Lib.hid (show Sl wr A2 (i - 1) c2 (nats .u64 (S.drop 1)) from by rw [← tailS_all S i Hlen.out]; exact Sl.of_own' Hx.out (nats_one _ _))
      have hk2 : ∀ o, (wr.alloc o).cell? ⟨b, off, none⟩ = some (.int .u16 (s0 : Int)) := fun o => ((below_new wr o).cell (p := ⟨b, off, none⟩) (Nat.lt_of_lt_of_le hbw1 hsz)).trans ((Hbl.out.cell (p := ⟨b, off, none⟩) hbw1).trans (by have := Hc1.out 0 (by omega); rw [HS0.out] at this; exact this))
      rw [show 1 * (s0 : Int) = (s0 : Int) from by omega] at Z2
      clear Ho Hx Hap
      go_wp2_with fail
      rw [E2.out, E3.out, E4.out]
      have o3 : (wr.alloc (.cells #[.int .u8 ((222 + i / 256 : Nat) : Int), .int .u8 ((i % 256 : Nat) : Int)] 5)).ownsRow wr.heap.size 5 1 (.slice (some ⟨wr.heap.size, 0, none⟩) 2 2) 2 (nats .u8 (hdB 3 15 i)) := World.ownsRow_lit wr #[.int .u8 ((222 + i / 256 : Nat) : Int), .int .u8 ((i % 256 : Nat) : Int)] 2 (Nat.le_refl _) (by decide) rfl
      have bn := below_new wr (.cells #[.int .u8 ((222 + i / 256 : Nat) : Int), .int .u8 ((i % 256 : Nat) : Int)] 5)
      have hz3 : wr.heap.size ≤ (wr.alloc (.cells #[.int .u8 ((222 + i / 256 : Nat) : Int), .int .u8 ((i % 256 : Nat) : Int)] 5)).heap.size := by simp
      have B3 := Lib.hid bn
      obtain ⟨h0, hh0⟩ : ∃ h0, h0 = 222 + i / 256 := ⟨_, rfl⟩
      obtain ⟨h1, hh1⟩ : ∃ h1, h1 = i % 256 := ⟨_, rfl⟩
      rw [← hh0, ← hh1] at o3 hz3 B3 ⊢
      generalize wr.alloc (.cells #[.int .u8 (h0 : Int), .int .u8 (h1 : Int)] 5) = w3 at *
      have O3 := Lib.hid o3
      clear o3 bn hh0 hh1 E2 E3 E4 hk2
      refine (Z1.out _).mono ?_
      rintro e w4 ⟨rfl, rfl⟩
      go_wp2_with fail
      refine (putvar_r wr.heap.size 2 _ zv _ w3 O3.out hz3 hzv64 (by decide)).mono ?_
      rintro e w4 ⟨v4, rfl, o4, b4⟩
      have O4 := Lib.hid o4
      have B4 := Lib.hid (B3.out.trans b4)
      have hz4 : wr.heap.size ≤ w4.heap.size := Nat.le_trans hz3 b4.size
      have hlv := varP_length zv
      have hls := varP_length zs
      clear o4 b4
      go_wp2_with fail
      refine (Z2.out _).mono ?_
      rintro e w5 ⟨rfl, rfl⟩
      go_wp2_with fail
      refine (putvar_r wr.heap.size _ _ zs _ w4 O4.out hz4 hzs64 (by omega)).mono ?_
      rintro e w5 ⟨v5, rfl, o5, b5⟩
      have B5 := Lib.hid (B4.out.trans b5)
      obtain ⟨A5, c5, rfl, s5⟩ := Sl.of_own o5 (nats_one _ _)
      obtain ⟨L5, hL5⟩ : ∃ x, x = 2 + (varP zv).length + (varP zs).length := ⟨_, rfl⟩
      rw [← hL5] at s5 ⊢
      have hL5b : L5 ≤ 1000 := by omega
      have S5 := Lib.hid s5
      clear s5 o5 b5 hL5 hlv hls
      go_wp2_with fail
      refine (rput_ok A5 L5 c5 _ A2 (i - 1) c2 (S.drop 1) 16 w5 S5.out (SX.out.keep B5.out) (fun x hx => Nat.lt_trans (HS.out x (List.mem_of_mem_drop hx)) (by decide)) (by decide) (by omega)).mono ?_
      rintro e w6 ⟨A6, m6, c6, rfl, s6, b6⟩
      rw [← HA.out] at s6
      have hm6 := s6.len
      rw [nats_length] at hm6
      have hm6' : m6 ≤ 1000000000 := by
        have h1 := S5.out.len
        have h2 := congrArg List.length HA.out
        rw [nats_length] at h1
        rw [List.length_append, putSpec_len, List.length_drop, Hlen.out] at h2
        unfold nbytes at h2
        omega
      have hd := decode_p A6 m6 c6 _ ((i + 1 : Nat) : Int) true w6 s6 HB8.out hm6'
      rw [HDec.out] at hd
      have Hd := Lib.hid hd
      have B6 := Lib.hid (below_trans' Hbl.out (below_trans' B5.out b6))
      have S6 := Lib.hid ((SL.out.keep B5.out).keep b6)
      clear s6 b6 hm6 hm6' hd
      go_wp2_with fail
      refine Hd.out.mono ?_
      rintro e w7 ⟨A7, c7, rfl, s7, b7⟩
      dsimp only at s7 ⊢
      rw [psL_length] at s7 ⊢
      have S7 := Lib.hid s7
      have B7 := Lib.hid b7
      have S8 := Lib.hid (S6.out.keep b7)
      clear s7 b7
      go_wp2_with fail
      refine (sameI_yes _ _ _ _ _ _ w7 S7.out S8.out (by omega)).mono ?_
      rintro e w8 ⟨rfl, b8⟩
      have B8 := Lib.hid b8
      clear b8
      go_wp2_with fail
      go_ret
      exact ⟨rfl, below_trans' B1.out (below_trans' (below_trans' B6.out B7.out) B8.out)⟩
set_option maxHeartbeats 3200000 in
theorem law_RunsDelta (v : Int) (A : Option Addr) (n c : Nat) (S : List Nat) (dn : Bool) (w : World) (hv : -9223372036854775808 ≤ v ∧ v ≤ 9223372036854775807) (hl : Sl w A n c (nats .u16 S)) (hS : ∀ x ∈ S, x < 65536) :
    Calls Try.prog 5 #[.int .i64 v, .slice A n c, .bool dn] w fun e w' => e = .returned (.bool true) ∧ Below w.heap.size w w' := by
  have hn63 : (n : Int) ≤ 9223372036854775807 := by
    have h1 := hl.le
    have h2 := hl.max
    unfold maxLen at h2
    omega
  by_cases hc1 : n = 0
  · clear hl
    go_enter Try.func5, Try.ntmps5
    go_wp2_with fail
    refine (known9 _).mono ?_
    rintro e w1 ⟨rfl, b1⟩
    have B1 := Lib.hid b1
    clear b1
    go_wp2_with fail
    all_goals (go_ret; exact ⟨rfl, B1.out⟩)
  by_cases hc2 : 511 < (n : Int)
  · clear hl
    go_enter Try.func5, Try.ntmps5
    go_wp2_with fail
    refine (known9 _).mono ?_
    rintro e w1 ⟨rfl, b1⟩
    have B1 := Lib.hid b1
    clear b1
    go_wp2_with fail
    all_goals (go_ret; exact ⟨rfl, B1.out⟩)
  by_cases hc3 : v < -1152921504606846976
  · clear hl
    go_enter Try.func5, Try.ntmps5
    go_wp2_with fail
    refine (known9 _).mono ?_
    rintro e w1 ⟨rfl, b1⟩
    have B1 := Lib.hid b1
    clear b1
    go_wp2_with fail
    all_goals (go_ret; exact ⟨rfl, B1.out⟩)
  by_cases hc4 : 1152921504606846976 < v
  · clear hl
    go_enter Try.func5, Try.ntmps5
    go_wp2_with fail
    refine (known9 _).mono ?_
    rintro e w1 ⟨rfl, b1⟩
    have B1 := Lib.hid b1
    clear b1
    go_wp2_with fail
    all_goals (go_ret; exact ⟨rfl, B1.out⟩)
  by_cases hc5 : dn = true ∧ S.getD 0 0 = 0
  · obtain ⟨rfl, h0⟩ := hc5
    obtain ⟨b, off, hA, hbw, hcell⟩ := hl.at_ (by omega)
    have hlen := hl.len
    rw [nats_length] at hlen
    have hk := hcell 0 (by omega)
    rw [nats_getD _ _ _ (by omega), h0] at hk
    have q1 : ((n : Int) == 0) = false := beq_eq_false_iff_ne.2 (by omega)
    have q0 : 0 < n := by omega
    have q2 : decide ((511 : Int) < (n : Int)) = false := decide_eq_false hc2
    have q3 : decide (v < -1152921504606846976) = false := decide_eq_false hc3
    have q4 : decide ((1152921504606846976 : Int) < v) = false := decide_eq_false hc4
    subst hA
    clear hl hcell hc1 hc2 hc3 hc4
    go_enter Try.func5, Try.ntmps5
    go_wp2_with fail
    refine (known9 _).mono ?_
    rintro e w1 ⟨rfl, b1⟩
    have hk1 : w1.cell? ⟨b, off, none⟩ = some (.int .u16 0) := (b1.cell (p := ⟨b, off, none⟩) hbw).trans hk
    have B1 := Lib.hid b1
    clear b1
    go_wp2_with fail
    all_goals (go_ret; exact ⟨rfl, B1.out⟩)
  · cases dn with
    | true => exact delta_in_true A n c S v w hl hS (by omega) (by omega) (by omega) (fun h => hc5 ⟨rfl, h⟩)
    | false => exact delta_in_false A n c S v w hl hS (by omega) (by omega) (by omega) trivial
end Go.Proofs.Ytehcbgnoiogncaa
