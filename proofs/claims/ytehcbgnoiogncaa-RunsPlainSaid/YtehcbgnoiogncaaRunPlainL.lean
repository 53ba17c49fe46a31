/- RunsPlain: the walk. -/
import Derived.Test.YtehcbgnoiogncaaRunLawM
import Derived.Test.YtehcbgnoiogncaaPackRPut
namespace Go.Proofs.Ytehcbgnoiogncaa
open Go.RowKit
open PackMath
set_option linter.unusedVariables false

def zagM (wd : Nat) (l : List Nat) (i : Nat) : List Int := (l.take i).map fun (u : Nat) => zagS ((u % 2 ^ wd : Nat) : Int)
theorem zagM_succ (wd : Nat) (l : List Nat) (i : Nat) (h : i < l.length) : zagM wd l (i + 1) = zagM wd l i ++ [zagS ((l.getD i 0 % 2 ^ wd : Nat) : Int)] := by
  unfold zagM
  rw [List.take_add_one, List.map_append, List.getElem?_eq_getElem h, getD_eq _ _ h]
  rfl
theorem zagM_length (wd : Nat) (l : List Nat) : (zagM wd l l.length).length = l.length := by simp [zagM]
theorem plain_head (k c : Nat) (hk : k < 32) (hc : c < 512) : bits .or .i64 (bits .or .i64 64 ((k : Int) * 2)) ((c : Int) / 256) = ((64 + 2 * k + c / 256 : Nat) : Int) := by
  have e1 : bits .or .i64 64 ((k : Int) * 2) = ((64 + 2 * k : Nat) : Int) := by
    have := bits_or_i64 64 (2 * k) (by decide) (by omega)
    rw [show ((2 * k : Nat) : Int) = (k : Int) * 2 from by omega] at this
    rw [show (64 : Int) = ((64 : Nat) : Int) from rfl, this]
    have hx : 64 ||| 2 * k = 64 + 2 * k := (Nat.two_pow_add_eq_or_of_lt (i := 6) (show 2 * k < 2 ^ 6 from by omega) 1).symm
    rw [hx]
  rw [e1]
  have := bits_or_i64 (64 + 2 * k) (c / 256) (by omega) (by omega)
  rw [show ((c / 256 : Nat) : Int) = (c : Int) / 256 from by omega] at this
  rw [this]
  have hq : c / 256 < 2 ^ 1 := by omega
  have hx := (Nat.two_pow_add_eq_or_of_lt (i := 1) hq (32 + k))
  rw [show 2 ^ 1 * (32 + k) = 64 + 2 * k from by omega] at hx
  rw [← hx]
theorem plain_dec (l : List Nat) (code : Nat) (hl : 1 ≤ l.length) (hl2 : l.length ≤ 512) (hc : code < 32) :
    decT (hdB 1 code (l.length - 1) ++ putSpec l (widN code)) (l.length : Int) true = (zagM (widN code) l l.length, 0) := by
  have h := plain_made (hdB 1 code (l.length - 1) ++ putSpec l (widN code)) [] l [] code true (by simp) hl hl2 hc
  rw [numL_true] at h
  have e : (l.map (· % 2 ^ widN code)).map (fun (u : Nat) => zagS (u : Int)) = zagM (widN code) l l.length := by
    unfold zagM
    rw [List.take_length, List.map_map]
    rfl
  rw [e] at h
  have hlen : (hdB 1 code (l.length - 1) ++ putSpec l (widN code)).length = 2 + nbytes (l.length * widN code) := by
    rw [List.length_append, putSpec_len]; rfl
  have := dec_one _ _ true (show runS (hdB 1 code (l.length - 1) ++ putSpec l (widN code)) 0 true = (zagM (widN code) l l.length, (hdB 1 code (l.length - 1) ++ putSpec l (widN code)).length, 0) from by rw [hlen]; exact h) (by rw [zagM_length]; exact hl) (by rw [zagM_length]; omega)
  rwa [zagM_length] at this
theorem plainB_byte (l : List Nat) (code : Nat) (hl : 1 ≤ l.length) (hl2 : l.length ≤ 512) (hc : code < 32) : ∀ x ∈ hdB 1 code (l.length - 1) ++ putSpec l (widN code), x < 256 := by
  intro x hx
  rcases List.mem_append.1 hx with hx | hx
  · exact hdB_byte 1 code _ (by decide) hc (by omega) x hx
  · exact putSpec_byte _ _ x hx
theorem widN_pos (c : Nat) (h : c < 32) : 1 ≤ widN c := by
  have : ∀ c, c < 32 → 1 ≤ widN c := by decide +kernel
  exact this c h

set_option maxHeartbeats 3200000 in
set_option maxRecDepth 4000 in
theorem plain_in (A : Option Addr) (n c : Nat) (l : List Nat) (k : Nat) (w : World) (hl : Sl w A n c (nats .u64 l)) (hb : ∀ x ∈ l, x < 18446744073709551616) (hn1 : 1 ≤ n) (hn2 : n ≤ 512) (hk : k < 32) :
    Calls Try.prog 3 #[.slice A n c, .int .i64 (k : Int)] w fun e w' => e = .returned (.bool true) ∧ Below w.heap.size w w' := by
  have hlen := hl.len
  rw [nats_length] at hlen
  have hB8 := plainB_byte l k (by omega) (by omega) hk
  have hDec := plain_dec l k (by omega) (by omega) hk
  rw [hlen] at hB8 hDec
  have hzl : (zagM (widN k) l n).length = n := by rw [← hlen]; exact zagM_length _ _
  have HB8 := Lib.hid hB8
  have HDec := Lib.hid hDec
  have HZ := Lib.hid hzl
  clear hB8 hDec hzl
  have HK := Lib.hid hk
  have hw1 := widN_pos k hk
  have hw2 := widN_le k
  have HW := Lib.hid (widN_cast k)
  obtain ⟨wd, hwd⟩ : ∃ wd, widN k = wd := ⟨_, rfl⟩
  rw [hwd] at HB8 HDec HZ HW hw1 hw2
  have Hlen := Lib.hid hlen
  have Hl := Lib.hid hl
  have Hb := Lib.hid hb
  have Hhd := Lib.hid (plain_head k (n - 1) hk (by omega))
  clear hlen hl hb hwd
  obtain ⟨i0, hi, hz0, hz1, hz2⟩ := info_parts Try.info2
  have q1 : ((n : Int) == 0) = false := beq_eq_false_iff_ne.2 (by omega)
  have q2 : decide ((512 : Int) < (n : Int)) = false := decide_eq_false (by omega)
  have q3 : decide ((k : Int) < 0) = false := decide_eq_false (by omega)
  have q4 : decide ((31 : Int) < (k : Int)) = false := decide_eq_false (by omega)
  go_enter Try.func3, Try.ntmps3
  go_wp2_with fail
  refine (known9 _).mono ?_
  rintro e w1 ⟨rfl, b1⟩
  have B1 := Lib.hid b1
  clear b1
  go_wp2_with fail
  refine (width_r (k : Int) _).mono ?_
  rintro e w2 ⟨rfl, b2⟩
  rw [HW.out]
  have B2 := Lib.hid (below_trans' B1.out b2)
  clear b2
  go_wp2_with fail
  go_loopw [6, 7] (fun ov iv wr => ∃ (i : Nat) (A' : Option Addr) (c' : Nat), i ≤ n ∧ ov = .slice A' i c' ∧ iv = .int .i64 (i : Int) ∧ Hid (wr.ownsRow w2.heap.size 2 1 (.slice A' i c') i (ints .i64 (zagM wd l i))) ∧ Hid (Below w2.heap.size w2 wr)) (fun _ iv _ => n - (intOf iv).toNat)
  case atStart => exact ⟨0, none, 0, Nat.zero_le _, rfl, rfl, Lib.hid (World.ownsRow_nil _ _ _ _), Lib.hid (Below.refl _ _)⟩
  case round =>
    obtain ⟨i, A', c', hin, rfl, rfl, Ho, Hbl⟩ := hrel
    by_cases hlt : i < n
    · obtain ⟨b, off, hA, hbw, hcell⟩ := Hl.out.at_ (by omega)
      have hcl := hcell i hlt
      rw [nats_getD _ _ _ (by rw [Hlen.out]; exact hlt)] at hcl
      have hx64 : l.getD i 0 < 18446744073709551616 := by
        rw [getD_eq _ _ (by rw [Hlen.out]; exact hlt)]; exact Hb.out _ (List.getElem_mem _)
      have Hs := Lib.hid (zagM_succ wd l i (by rw [Hlen.out]; exact hlt))
      generalize hx : l.getD i 0 = x at *
      have hcl2 : wr.cell? ⟨b, off + i, none⟩ = some (.int .u64 (x : Int)) := (Hbl.out.cell (p := ⟨b, off + i, none⟩) (Nat.lt_of_lt_of_le hbw B2.out.size)).trans ((B2.out.cell (p := ⟨b, off + i, none⟩) hbw).trans hcl)
      subst hA
      clear hcell hcl hx
      have hsz := Hbl.out.size
      by_cases hw64 : wd < 64
      · have Hand := Lib.hid (and_mask_u64 x wd hx64 (by omega))
        go_wp2_with fail
        rw [Hand.out]
        have hy64 : x % 2 ^ wd < 18446744073709551616 := Nat.lt_of_le_of_lt (Nat.mod_le _ _) hx64
        generalize hy : x % 2 ^ wd = y at *
        clear Hand hy
        refine (zag_r (y : Int) _ (by omega) (by omega)).mono ?_
        rintro e w3 ⟨rfl, rfl⟩
        go_wp2_with (at_builtin; refine wpList_append_sl rfl _ _ 25 rfl w2.heap.size 2 i0 (.int .i64 0) 8 Try.underlying25 hi hz0 hz1 hz2 rfl _ i _ rfl (Ho.out.alloc _) (some ⟨wr.heap.size, 0, none⟩) 1 1 [.int .i64 (zagS (y : Int))] rfl (Sl.one_new wr (.int .i64 (zagS (y : Int))) _ rfl) ?c1 ?c2 ?c3 ?_)
        case c1 => unfold maxLen; omega
        case c2 => omega
        case c3 => simp; omega
        intro v6 w6 ho6 hb6 _ _
        obtain ⟨A6, c6, rfl, s6⟩ := Sl.of_own ho6 (fun u hu => (List.mem_append.1 hu).elim (ints_one _ _ u) (fun h => by simp at h; subst h; rfl))
        have H6 : Hid (w6.ownsRow w2.heap.size 2 1 (.slice A6 (i + 1) c6) (i + 1) (ints .i64 (zagM wd l (i + 1)))) := by
          have := ho6
          rw [Hs.out]
          unfold ints at this ⊢
          rw [List.map_append]; exact this
        have Hb6 := Lib.hid ((Hbl.out.alloc hsz _).trans hb6)
        clear ho6 s6 hb6
        go_wp2_with fail
        exact ⟨⟨i + 1, A6, c6, by omega, rfl, by first | rfl | simp, H6, Hb6⟩, by simp only [intOf]; omega⟩
      · have hw6 : wd = 64 := by omega
        have hy : x % 2 ^ wd = x := by rw [hw6]; exact Nat.mod_eq_of_lt hx64
        rw [hy] at Hs
        clear hy hw6
        go_wp2_with fail
        refine (zag_r (x : Int) _ (by omega) (by omega)).mono ?_
        rintro e w3 ⟨rfl, rfl⟩
        go_wp2_with (at_builtin; refine wpList_append_sl rfl _ _ 25 rfl w2.heap.size 2 i0 (.int .i64 0) 8 Try.underlying25 hi hz0 hz1 hz2 rfl _ i _ rfl (Ho.out.alloc _) (some ⟨wr.heap.size, 0, none⟩) 1 1 [.int .i64 (zagS (x : Int))] rfl (Sl.one_new wr (.int .i64 (zagS (x : Int))) _ rfl) ?c1 ?c2 ?c3 ?_)
        case c1 => unfold maxLen; omega
        case c2 => omega
        case c3 => simp; omega
        intro v6 w6 ho6 hb6 _ _
        obtain ⟨A6, c6, rfl, s6⟩ := Sl.of_own ho6 (fun u hu => (List.mem_append.1 hu).elim (ints_one _ _ u) (fun h => by simp at h; subst h; rfl))
        have H6 : Hid (w6.ownsRow w2.heap.size 2 1 (.slice A6 (i + 1) c6) (i + 1) (ints .i64 (zagM wd l (i + 1)))) := by
          have := ho6
          rw [Hs.out]
          unfold ints at this ⊢
          rw [List.map_append]; exact this
        have Hb6 := Lib.hid ((Hbl.out.alloc hsz _).trans hb6)
        clear ho6 s6 hb6
        go_wp2_with fail
        exact ⟨⟨i + 1, A6, c6, by omega, rfl, by first | rfl | simp, H6, Hb6⟩, by simp only [intOf]; omega⟩
    · have hin' : i = n := by omega
      subst hin'
      obtain ⟨A9, c9, hv9, s9⟩ := Sl.of_own Ho.out (ints_one _ _)
      injection hv9 with q5 q6 q7
      subst q5 q7
      have S9 := Lib.hid s9
      have e1 : (i : Int) - 1 = ((i - 1 : Nat) : Int) := by omega
      obtain ⟨c0, hc0⟩ : ∃ c0, c0 = i - 1 := ⟨_, rfl⟩
      rw [← hc0] at e1 Hhd
      have E1 := Lib.hid e1
      have HC0 := Lib.hid hc0
      have hc1 : c0 < 512 := by omega
      have Hhd2 := Lib.hid (show ((64 + 2 * k + c0 / 256 : Nat) : Int) % 256 = ((64 + 2 * k + c0 / 256 : Nat) : Int) by have := HK.out; omega)
      have Hhd3 := Lib.hid (show (c0 : Int) % 256 = ((c0 % 256 : Nat) : Int) by omega)
      clear e1 hc0 s9
      go_wp2_with fail
      rw [E1.out, Hhd.out, Hhd2.out, Hhd3.out]
      have hbw1 := below_new wr (.cells #[.int .u8 ((64 + 2 * k + c0 / 256 : Nat) : Int), .int .u8 ((c0 % 256 : Nat) : Int)] 5)
      have hlw := ((Hl.out.keep B2.out).keep Hbl.out).keep hbw1
      have hhd : Sl (wr.alloc (.cells #[.int .u8 ((64 + 2 * k + c0 / 256 : Nat) : Int), .int .u8 ((c0 % 256 : Nat) : Int)] 5)) (some ⟨wr.heap.size, 0, none⟩) 2 2 (nats .u8 (hdB 1 k c0)) := Sl.lit wr (nats .u8 (hdB 1 k c0)) 2 _ rfl (by decide) (nats_one _ _)
      have B3 := Lib.hid (below_trans' (below_trans' B2.out Hbl.out) hbw1)
      have S3 := Lib.hid (S9.out.keep hbw1)
      generalize wr.alloc (.cells #[.int .u8 ((64 + 2 * k + c0 / 256 : Nat) : Int), .int .u8 ((c0 % 256 : Nat) : Int)] 5) = w3 at *
      have hmul : i * wd ≤ 512 * 64 := Nat.mul_le_mul hn2 hw2
      refine (rput_ok _ 2 2 (hdB 1 k c0) A i c l wd w3 hhd hlw Hb.out hw2 (by omega)).mono ?_
      rintro e w4 ⟨A4, m4, c4, rfl, s4, b4⟩
      have hm4 := s4.len
      rw [nats_length, List.length_append, putSpec_len, Hlen.out] at hm4
      have hm4' : m4 ≤ 1000000000 := by
        have e2 : (hdB 1 k c0).length = 2 := rfl
        unfold nbytes at hm4
        omega
      have HB4 := HB8.out
      rw [← HC0.out] at HB4
      have hd := decode_p A4 m4 c4 _ (i : Int) true w4 s4 HB4 hm4'
      have hde := HDec.out
      rw [← HC0.out] at hde
      rw [hde] at hd
      have Hd := Lib.hid hd
      have B4 := Lib.hid b4
      clear s4 b4 hm4 hm4' HB4 hde hd hhd hlw hmul hbw1
      go_wp2_with fail
      refine Hd.out.mono ?_
      rintro e w5 ⟨B5, cB5, rfl, s5, b5⟩
      dsimp only at s5 ⊢
      rw [HZ.out] at s5 ⊢
      have S5 := Lib.hid s5
      have B5 := Lib.hid b5
      have S6 := Lib.hid ((S3.out.keep B4.out).keep b5)
      clear s5 b5
      go_wp2_with fail
      refine (sameI_yes _ _ _ _ _ _ w5 S5.out S6.out (by omega)).mono ?_
      rintro e w6 ⟨rfl, b6⟩
      have B6 := Lib.hid b6
      clear b6
      go_wp2_with fail
      go_ret
      exact ⟨rfl, below_trans' (below_trans' (below_trans' B3.out B4.out) B5.out) B6.out⟩
set_option maxHeartbeats 3200000 in
theorem law_RunsPlain (A : Option Addr) (n c : Nat) (l : List Nat) (code : Int) (w : World) (hl : Sl w A n c (nats .u64 l)) (hb : ∀ x ∈ l, x < 18446744073709551616) (hc : -9223372036854775808 ≤ code ∧ code ≤ 9223372036854775807) :
    Calls Try.prog 3 #[.slice A n c, .int .i64 code] w fun e w' => e = .returned (.bool true) ∧ Below w.heap.size w w' := by
  by_cases hin : (1 ≤ n ∧ n ≤ 512) ∧ (0 ≤ code ∧ code < 32)
  · obtain ⟨k, rfl⟩ : ∃ k : Nat, code = (k : Int) := ⟨code.toNat, by omega⟩
    exact plain_in A n c l k w hl hb hin.1.1 hin.1.2 (by omega)
  · have q : ((n : Int) == 0 || decide (512 < (n : Int)) || decide (code < 0) || decide (31 < code)) = true := by
      simp only [Bool.or_eq_true, beq_iff_eq, decide_eq_true_eq]
      omega
    have hn63 : (n : Int) ≤ 9223372036854775807 := by
      have h1 := hl.le
      have h2 := hl.max
      unfold maxLen at h2
      omega
    clear hl hb
    go_enter Try.func3, Try.ntmps3
    go_wp2_with fail
    refine (known9 _).mono ?_
    rintro e w1 ⟨rfl, b1⟩
    have B1 := Lib.hid b1
    clear b1
    go_wp2_with fail
    all_goals (go_ret; exact ⟨rfl, B1.out⟩)
end Go.Proofs.Ytehcbgnoiogncaa
