/- RunsShort: the walk. -/
import Derived.Test.YtehcbgnoiogncaaRunLawM
namespace Go.Proofs.Ytehcbgnoiogncaa
open Go.RowKit
open PackMath
set_option linter.unusedVariables false

def shortB (k m u : Nat) : List Nat := [8 * (k - 1) + (m - 3)] ++ bigB k u
theorem shortB_len (k m u : Nat) : (shortB k m u).length = 1 + k := by simp [shortB, bigB_length]; omega
theorem shortB_byte (k m u : Nat) (hk : 1 ≤ k ∧ k ≤ 8) (hm : 3 ≤ m ∧ m ≤ 10) : ∀ x ∈ shortB k m u, x < 256 := by
  intro x hx
  unfold shortB at hx
  rcases List.mem_append.1 hx with hx | hx
  · simp at hx; omega
  · exact bigB_byte _ _ x hx
theorem short_run (k m u : Nat) (hk : 1 ≤ k ∧ k ≤ 8) (hm : 3 ≤ m ∧ m ≤ 10) (hu : u < 2 ^ (8 * k)) : runS (shortB k m u) 0 true = (List.replicate m (zagS (u : Int)), 1 + k, 0) := by
  have hl := shortB_len k m u
  have h0 : (shortB k m u).getD 0 0 = 8 * (k - 1) + (m - 3) := rfl
  have hd : (shortB k m u).drop 1 = bigB k u := rfl
  have e1 : (8 * (k - 1) + (m - 3)) / 8 % 8 + 1 = k := by omega
  have e2 : (8 * (k - 1) + (m - 3)) % 8 + 3 = m := by omega
  unfold runS
  rw [if_neg (by omega), if_neg (by omega), h0, if_pos (by omega)]
  unfold shortS
  rw [h0, e1, e2, if_neg (by omega), show 0 + 1 = 1 from rfl, hd, List.take_of_length_le (by rw [bigB_length]; omega), bigV_bigB, Nat.mod_eq_of_lt hu, Nat.zero_mul, Nat.zero_add]
  unfold numS
  rw [if_pos rfl]
  rfl
theorem or_short (a b : Nat) (ha : a < 8) (hb : b < 8) : bits .or .i64 ((a : Int) * 8) (b : Int) = ((8 * a + b : Nat) : Int) := by
  have : ∀ a, a < 8 → ∀ b, b < 8 → bits .or .i64 (((a : Nat) : Int) * 8) ((b : Nat) : Int) = ((8 * a + b : Nat) : Int) := by decide +kernel
  exact this a ha b hb
theorem shl_shr (z s : Nat) (hs : s ≤ 64) : (z * 2 ^ s % 18446744073709551616) / 2 ^ s = z % 2 ^ (64 - s) := by
  have e : 18446744073709551616 = 2 ^ (64 - s) * 2 ^ s := by rw [← Nat.pow_add, show 64 - s + s = 64 from by omega]
  rw [e, Nat.mul_mod_mul_right, Nat.mul_div_cancel _ (Nat.two_pow_pos s)]
theorem shl_shr_u64 (z s : Nat) (hs : s ≤ 64) : IntKind.u64.wrap ((z : Int) * 2 ^ s) / 2 ^ s = ((z % 2 ^ (64 - s) : Nat) : Int) := by
  rw [← shl_shr z s hs, IntKind.wrap_u64]
  simp

set_option maxHeartbeats 3200000 in
set_option maxRecDepth 4000 in
theorem short_in (v : Int) (k m : Nat) (w : World) (hv : InI v) (hk : 1 ≤ k ∧ k ≤ 8) (hm : 3 ≤ m ∧ m ≤ 10) :
    Calls Try.prog 4 #[.int .i64 v, .int .i64 (k : Int), .int .i64 (m : Int)] w fun e w' => e = .returned (.bool true) ∧ Below w.heap.size w w' := by
  have hzv := zig_in v hv
  have Z1 := Lib.hid (fun W => zig_r v W hv)
  obtain ⟨zv, hzvN⟩ : ∃ zv : Nat, zigS v = (zv : Int) := ⟨(zigS v).toNat, by omega⟩
  rw [hzvN] at Z1 hzv
  have hzv64 : zv < 18446744073709551616 := by omega
  have q1 : decide ((k : Int) < 1) = false := decide_eq_false (by omega)
  have q2 : decide ((8 : Int) < (k : Int)) = false := decide_eq_false (by omega)
  have q3 : decide ((m : Int) < 3) = false := decide_eq_false (by omega)
  have q4 : decide ((10 : Int) < (m : Int)) = false := decide_eq_false (by omega)
  have hu := Nat.mod_lt zv (Nat.two_pow_pos (8 * k))
  have es := shl_shr_u64 zv (64 - 8 * k) (by omega)
  rw [show 64 - (64 - 8 * k) = 8 * k from by omega] at es
  obtain ⟨u, hue⟩ : ∃ u, u = zv % 2 ^ (8 * k) := ⟨_, rfl⟩
  rw [← hue] at es hu
  have hu64 : u < 18446744073709551616 := by rw [hue]; exact Nat.lt_of_le_of_lt (Nat.mod_le _ _) hzv64
  have HRun := Lib.hid (short_run k m u hk hm hu)
  have HB8 := Lib.hid (shortB_byte k m u hk hm)
  have Hhd := Lib.hid (or_short (k - 1) (m - 3) (by omega) (by omega))
  have Es := Lib.hid es
  have E2 := Lib.hid (show (k : Int) - 1 = ((k - 1 : Nat) : Int) by omega)
  have E3 := Lib.hid (show (m : Int) - 3 = ((m - 3 : Nat) : Int) by omega)
  obtain ⟨hk1, hk8⟩ := hk
  obtain ⟨hm3, hm10⟩ := hm
  have Hue := Lib.hid hue
  clear hzvN es hue hu
  go_enter Try.func4, Try.ntmps4
  go_wp2_with fail
  refine (known9 _).mono ?_
  rintro e w1 ⟨rfl, b1⟩
  have B1 := Lib.hid b1
  clear b1
  go_wp2_with fail
  refine (Z1.out _).mono ?_
  rintro e w2 ⟨rfl, rfl⟩
  have hs0 : (0 : Int) ≤ 64 - 8 * (k : Int) := by omega
  have hs63 : 64 - 8 * (k : Int) ≤ 63 := by omega
  go_wp2_with fail
  rw [Es.out, E2.out, E3.out, Hhd.out]
  have hh8 : 8 * (k - 1) + (m - 3) < 256 := by omega
  obtain ⟨h0, hh0⟩ : ∃ h0, h0 = 8 * (k - 1) + (m - 3) := ⟨_, rfl⟩
  rw [← hh0] at hh8 ⊢
  have HH0 := Lib.hid hh0
  rw [show (h0 : Int) % 256 = (h0 : Int) from by omega]
  have o3 : (w1.alloc (.cells #[.int .u8 (h0 : Int)] 5)).ownsRow w1.heap.size 5 1 (.slice (some ⟨w1.heap.size, 0, none⟩) 1 1) 1 (nats .u8 [h0]) := World.ownsRow_lit w1 #[.int .u8 (h0 : Int)] 1 (Nat.le_refl _) (by decide) rfl
  have B3 := Lib.hid (below_trans' B1.out (below_new w1 (.cells #[.int .u8 (h0 : Int)] 5)))
  have hz3 : w1.heap.size ≤ (w1.alloc (.cells #[.int .u8 (h0 : Int)] 5)).heap.size := by simp
  have hww1 := B1.out.size
  generalize w1.alloc (.cells #[.int .u8 (h0 : Int)] 5) = w3 at *
  refine (putbig_r w1.heap.size 1 _ u (k : Int) _ w3 o3 hz3 hu64 (by decide)).mono ?_
  have hbp : bigP u (k : Int) = bigB k u := by unfold bigP; rw [if_pos (by omega), Int.toNat_natCast]
  rw [hbp, bigB_length, show [h0] ++ bigB k u = shortB k m u from by unfold shortB; rw [hh0]]
  rintro e w4 ⟨v4, rfl, o4, b4⟩
  obtain ⟨A4, c4, rfl, s4⟩ := Sl.of_own o4 (nats_one _ _)
  have hr := run_all A4 (1 + k) c4 _ 0 true w4 s4 HB8.out (by omega) (by omega)
  rw [HRun.out] at hr
  have Hr := Lib.hid hr
  have B4 := Lib.hid (B3.out.trans (b4.mono hww1))
  clear o3 hz3 hbp hh0 hh8 o4 b4 s4 hr
  go_wp2_with fail
  refine Hr.out.mono ?_
  rintro e w5 ⟨Bl, cB5, rfl, s5, b5, _⟩
  dsimp only at s5 ⊢
  rw [List.length_replicate] at s5 ⊢
  have S5 := Lib.hid s5
  have B5 := Lib.hid (below_trans' B4.out b5)
  clear s5 b5
  obtain ⟨x5, f5, rfl, hx5, hc5⟩ := S5.out.at_ (by omega)
  have Hz := Lib.hid (fun W => (zag_r (u : Int) W (by omega) (by omega)).mono (fun e w' h => (⟨h.1, h.2.symm⟩ : e = .returned (.int .i64 (zagS (u : Int))) ∧ w' = W)))
  have HC : ∀ i, i < m → w5.cell? ⟨x5, f5 + i, none⟩ = some (.int .i64 (zagS (u : Int))) := by
    intro i hi
    rw [hc5 i hi, ints_getD _ _ _ (by rw [List.length_replicate]; exact hi)]
    congr 2
    rw [List.getD_eq_getElem?_getD, List.getElem?_replicate, if_pos hi]
    rfl
  generalize hzz : zagS (u : Int) = z at *
  have HC' := Lib.hid HC
  clear hc5 HC hzz Hr
  go_wp2_with fail
  go_loopw [12] (fun iv wr => ∃ i : Nat, i ≤ m ∧ iv = .int .i64 (i : Int) ∧ Hid (Below w5.heap.size w5 wr)) (fun iv _ => m - (intOf iv).toNat)
  case atStart => exact ⟨0, Nat.zero_le _, rfl, Lib.hid (Below.refl _ _)⟩
  case round =>
    obtain ⟨i, hi, rfl, Hbl⟩ := hrel
    by_cases hlt : i < m
    · have c1 : wr.cell? ⟨x5, f5 + i, none⟩ = some (.int .i64 z) := (Hbl.out.cell (p := ⟨x5, f5 + i, none⟩) hx5).trans (HC'.out i hlt)
      go_wp2_with fail
      go_quiet ((go_at_call 13; exact Calls.quiet_of_same (Hz.out _)))
      go_wp2_with fail
      exact ⟨⟨i + 1, by omega, by go_num, Lib.hid (below_trans' Hbl.out (below_drewN _ _))⟩, by simp only [intOf]; omega⟩
    · go_wp2_with fail
      go_ret
      exact ⟨rfl, below_trans' B5.out Hbl.out⟩
set_option maxHeartbeats 3200000 in
theorem law_RunsShort (v width count : Int) (w : World) (hv : -9223372036854775808 ≤ v ∧ v ≤ 9223372036854775807) (hw : -9223372036854775808 ≤ width ∧ width ≤ 9223372036854775807) (hc : -9223372036854775808 ≤ count ∧ count ≤ 9223372036854775807) :
    Calls Try.prog 4 #[.int .i64 v, .int .i64 width, .int .i64 count] w fun e w' => e = .returned (.bool true) ∧ Below w.heap.size w w' := by
  by_cases hin : (1 ≤ width ∧ width ≤ 8) ∧ (3 ≤ count ∧ count ≤ 10)
  · obtain ⟨k, rfl⟩ : ∃ k : Nat, width = (k : Int) := ⟨width.toNat, by omega⟩
    obtain ⟨m, rfl⟩ : ∃ m : Nat, count = (m : Int) := ⟨count.toNat, by omega⟩
    exact short_in v k m w hv (by omega) (by omega)
  · have q : (decide (width < 1) || decide (8 < width) || decide (count < 3) || decide (10 < count)) = true := by
      simp only [Bool.or_eq_true, decide_eq_true_eq]
      omega
    go_enter Try.func4, Try.ntmps4
    go_wp2_with fail
    refine (known9 _).mono ?_
    rintro e w1 ⟨rfl, b1⟩
    have B1 := Lib.hid b1
    clear b1
    go_wp2_with fail
    all_goals (go_ret; exact ⟨rfl, B1.out⟩)
end Go.Proofs.Ytehcbgnoiogncaa
