/- flags.Unpack where it refuses; the reference's Pack; same. -/
import Derived.Test.YtcmmgehghlaofaaFlagUnp
namespace Go.Proofs.Ytcmmgehghlaofaa
open Go.RowKit
open PackMath
set_option linter.unusedVariables false

set_option maxHeartbeats 1600000 in
set_option maxRecDepth 4000 in
theorem unp_long (A : Option Addr) (n c k : Nat) (w : World) (hk : k ≤ 16384) (hn : nbytes k < n) (hnc : n ≤ c) (hc : c ≤ maxLen) :
    Calls Try.prog 29 #[.slice A n c, .int .i64 (k : Int)] w fun e w' => e = .returned (.tuple #[.slice none 0 0, .int .i64 2]) ∧ w = w' := by
  unfold maxLen at hc
  obtain ⟨N, hN⟩ : ∃ N, N = nbytes k := ⟨_, rfl⟩
  rw [← hN] at hn
  have hq : ((k : Int) + 7) / 8 = (N : Int) := by rw [hN]; unfold nbytes; omega
  have h1 : ¬ n < N := by omega
  clear hN
  go_enter Try.func29, Try.ntmps29
  go_wp2_with fail
  go_ret2
  exact ⟨rfl, rfl⟩
set_option maxHeartbeats 1600000 in
set_option maxRecDepth 4000 in
theorem unp_short (A : Option Addr) (n c k : Nat) (w : World) (hk : k ≤ 16384) (hn : n < nbytes k) (hnc : n ≤ c) (hc : c ≤ maxLen) :
    Calls Try.prog 29 #[.slice A n c, .int .i64 (k : Int)] w fun e w' => e = .returned (.tuple #[.slice none 0 0, .int .i64 3]) ∧ w = w' := by
  unfold maxLen at hc
  obtain ⟨N, hN⟩ : ∃ N, N = nbytes k := ⟨_, rfl⟩
  rw [← hN] at hn
  have hq : ((k : Int) + 7) / 8 = (N : Int) := by rw [hN]; unfold nbytes; omega
  clear hN
  go_enter Try.func29, Try.ntmps29
  go_wp2_with fail
  go_ret2
  exact ⟨rfl, rfl⟩
set_option maxHeartbeats 1600000 in
set_option maxRecDepth 4000 in
theorem unp_fill (A : Option Addr) (n c : Nat) (bs : List Nat) (k : Nat) (w : World) (hs : Sl w A n c (nats .u8 bs)) (hb8 : ∀ x ∈ bs, x < 256) (hk : k ≤ 16384) (hn : n = nbytes k) (hr0 : 0 < k % 8) (hfill : bs.getD (n - 1) 0 * 2 ^ (k % 8) % 256 ≠ 0) :
    Calls Try.prog 29 #[.slice A n c, .int .i64 (k : Int)] w fun e w' => e = .returned (.tuple #[.slice none 0 0, .int .i64 2]) ∧ w = w' := by
  have hle := hs.le
  have hmax := hs.max
  unfold maxLen at hmax
  have hlen := hs.len
  rw [nats_length] at hlen
  have hn' : n ≤ 3000 ∧ 0 < n := by rw [hn]; unfold nbytes; omega
  obtain ⟨hn1, hn2⟩ := hn'
  have hq : ((k : Int) + 7) / 8 = (n : Int) := by rw [hn]; unfold nbytes; omega
  obtain ⟨r, hr⟩ : ∃ r, r = k % 8 := ⟨_, rfl⟩
  have hr8 : (k : Int) % 8 = (r : Int) := by omega
  obtain ⟨b, off, rfl, hbw, hcell⟩ := hs.at_ hn2
  obtain ⟨K, hK⟩ : ∃ K : Nat, n = K + 1 := ⟨n - 1, by omega⟩
  have hKI : (n : Int) - 1 = (K : Int) := by omega
  have h0' : (0 : Int) < (r : Int) := by omega
  obtain ⟨y, hy⟩ : ∃ y, y = bs.getD K 0 := ⟨_, rfl⟩
  have hcy : w.cell? ⟨b, off + K, none⟩ = some (.int .u8 (y : Int)) := by rw [hcell _ (by omega), nats_getD _ _ _ (by omega), hy]
  have hy8 : y < 256 := by rw [hy, getD_eq _ _ (by omega)]; exact hb8 _ (List.getElem_mem _)
  have hne : ((y : Int) * 2 ^ r % 256 != 0) = true := by
    have := hfill
    rw [← hr, show n - 1 = K from by omega, ← hy] at this
    have e : ((y : Nat) : Int) * 2 ^ r % 256 = ((y * 2 ^ r % 256 : Nat) : Int) := by simp
    rw [e, bne_iff_ne]
    omega
  have hKn : K < n := by omega
  have h1 : ¬ n < n := by omega
  clear hs hlen hn hb8 hfill hr hcell hy hK hr0
  go_enter Try.func29, Try.ntmps29
  go_wp2_with fail
  go_ret2
  exact ⟨rfl, rfl⟩

set_option maxHeartbeats 1600000 in
set_option maxRecDepth 4000 in
theorem rpack_p (A : Option Addr) (n c : Nat) (l : List Bool) (w : World) (hs : Sl w A n c (bools l)) (hn : n ≤ 100000) :
    Calls Try.prog 33 #[.slice A n c] w fun e w' => ∃ A', e = .returned (.slice A' (nbytes n) (nbytes n)) ∧ Sl w' A' (nbytes n) (nbytes n) (nats .u8 (packS l)) ∧ Below w.heap.size w w' := by
  have hle := hs.le
  have hmax := hs.max
  unfold maxLen at hmax
  have hlen := hs.len
  rw [bools_length] at hlen
  obtain ⟨N, hN⟩ : ∃ N, N = nbytes n := ⟨_, rfl⟩
  rw [← hN]
  have hNn : N ≤ n + 1 ∧ n ≤ 8 * N := by rw [hN]; unfold nbytes; omega
  obtain ⟨hN1, hN2⟩ := hNn
  have hq : ((n : Int) + 7) / 8 = (N : Int) := by rw [hN]; unfold nbytes; omega
  obtain ⟨i0, hi, hz0, hz1, hz2⟩ := info_parts Try.info5
  have Hs := Lib.hid hs
  have Hlen := Lib.hid hlen
  have HN := Lib.hid hN
  clear hs hlen hN
  go_enter Try.func33, Try.ntmps33
  go_wp2_with (at_make; refine wpList_make_full _ rfl _ _ 22 rfl w.heap.size 5 i0 (.int .u8 0) 1 Try.underlying22 hi hz0 hz1 .i64 .i64 _ _ N rfl rfl ?b0 ?b1 ?b2 ?b3 (Nat.le_refl _) ?_)
  case b0 => omega
  case b1 => omega
  case b2 => rw [hz2]; omega
  case b3 => unfold maxLen; omega
  intro w1 hown hgrow
  rw [toList_madeCells_one, show (Value.int .u8 0) = Value.int .u8 ((0 : Nat) : Int) from rfl, show List.replicate N (Value.int .u8 ((0 : Nat) : Int)) = nats .u8 (List.replicate N 0) from by simp [nats]] at hown
  have hbel : Below w.heap.size w w1 := (Below.refl _ _).grown hgrow (Nat.le_refl _) (fun k hk => by cases hk)
  rw [← bytesOf_zero, ← upTo_zero (bitL l)] at hown
  have Hown := Lib.hid hown
  clear hown hgrow
  go_wp2_with fail
  go_loopw [4] (fun iv wr => ∃ i : Nat, i ≤ n ∧ iv = .int .i64 (i : Int) ∧ Hid (wr.ownsRow w.heap.size 5 1 (.slice (some ⟨w.heap.size, 0, none⟩) N N) N (nats .u8 (bytesOf (upTo (bitL l) i) N))) ∧ Below w.heap.size w wr) (fun iv _ => n - (intOf iv).toNat)
  case atStart => exact ⟨0, Nat.zero_le _, rfl, Hown.out, hbel⟩
  case round =>
    obtain ⟨i, hi', rfl, Hown, hb⟩ := hrel
    by_cases hlt : i < n
    · obtain ⟨b, off, rfl, hbw, hcell⟩ := Hs.out.at_ (by omega)
      have hcb := (hb.cell (p := ⟨b, off + i, none⟩) hbw).trans ((hcell i hlt).trans (congrArg some (bools_getD l i (by have := Hlen.out; omega))))
      have hstep := bytesOf_step (bitL l) i N (by omega)
      have hbl : bitL l i = l.getD i false := rfl
      rw [hbl] at hstep
      clear hcell hbl
      cases hv : l.getD i false with
      | true =>
        rw [hv] at hcb hstep
        obtain ⟨j, hj⟩ : ∃ j, j = i / 8 := ⟨_, rfl⟩
        obtain ⟨m, hm⟩ : ∃ m, m = i % 8 := ⟨_, rfl⟩
        have hjI : (i : Int) / 8 = (j : Int) := by omega
        have hmI : (i : Int) % 8 = (m : Int) := by omega
        have hm8 : m < 8 := by omega
        have hjN : j < N := by omega
        rw [← hj, ← hm] at hstep
        obtain ⟨y, hy⟩ : ∃ y, y = (bytesOf (upTo (bitL l) i) N).getD j 0 := ⟨_, rfl⟩
        have hy8 : y < 256 := by rw [hy, bytesOf_getD _ _ _ hjN]; exact numOf_lt 8 _
        have hp8 : 2 ^ (7 - m) < 256 := Nat.lt_of_lt_of_le (Nat.pow_lt_pow_right (by decide) (show 7 - m < 8 from by omega)) (by decide)
        have hcy : wr.cell? ⟨w.heap.size, j, none⟩ = some (.int .u8 (y : Int)) := by
          have h1 := Hown.out.cellAt j (by omega)
          rw [nats, List.getElem?_map] at h1
          rw [show (bytesOf (upTo (bitL l) i) N)[j]? = some y from by rw [hy, List.getElem?_eq_getElem (by rw [bytesOf_length]; exact hjN), getD_eq _ _ (by rw [bytesOf_length]; exact hjN)]] at h1
          exact h1
        have hfy : wr.frozen? ⟨w.heap.size, j, none⟩ = false := Hown.out.frozenAt j
        rw [← hy, show true.toNat = 1 from rfl, Nat.one_mul] at hstep
        have h1 := (Hown.out.stored j (.int .u8 ((y ||| 2 ^ (7 - m) : Nat) : Int))).1
        rw [nats_set, ← hstep, ← bits_or_u8 y _ hy8 hp8, ← shr128 m hm8] at h1
        have H1 := Lib.hid h1
        have hb' := hb.setCell (p := ⟨w.heap.size, j, none⟩) (Nat.le_refl _) (.int .u8 (bits .or .u8 (y : Int) (128 / 2 ^ m)))
        clear hstep hv hy h1 hj hm
        go_wp2_with fail
        exact ⟨⟨i + 1, by omega, by go_num, H1.out, hb'⟩, by simp only [intOf]; omega⟩
      | false =>
        rw [hv] at hcb hstep
        have Ho5 : Hid (wr.ownsRow w.heap.size 5 1 (.slice (some ⟨w.heap.size, 0, none⟩) N N) N (nats .u8 (bytesOf (upTo (bitL l) (i + 1)) N))) := by
          have e : bytesOf (upTo (bitL l) (i + 1)) N = bytesOf (upTo (bitL l) i) N := by
            rw [hstep, show false.toNat = 0 from rfl, Nat.zero_mul, Nat.or_zero]
            refine List.ext_getElem (by simp) fun j h1 h2 => ?_
            rw [List.getElem_set]
            split
            · rename_i hj; subst hj; rw [getD_eq _ _ h2]
            · rfl
          rw [e]
          exact Hown.out
        clear hstep hv
        go_wp2_with fail
        exact ⟨⟨i + 1, by omega, by go_num, Ho5.out, hb⟩, by simp only [intOf]; omega⟩
    · obtain rfl : i = n := by omega
      have hs3 := Sl.of_own_at Hown.out (nats_one _ _)
      rw [← Hlen.out, upTo_bitL] at hs3
      have Hs3 := Lib.hid hs3
      clear hs3
      go_wp2_with fail
      go_ret
      refine ⟨_, rfl, ?_, hb⟩
      have h1 := Hs3.out
      unfold packS
      rw [Hlen.out, ← HN.out]
      exact h1

set_option maxHeartbeats 800000 in
theorem sameb_yes (A A' : Option Addr) (n c c' : Nat) (xs : List Bool) (w : World) (h : Sl w A n c (bools xs)) (h' : Sl w A' n c' (bools xs)) (hn : n ≤ 100000000000000) :
    Calls Try.prog 34 #[.slice A n c, .slice A' n c'] w fun e w' => e = .returned (.bool true) ∧ Below w.heap.size w w' := by
  have hlen := h.len
  rw [bools_length] at hlen
  have Hlen := Lib.hid hlen
  clear hlen
  go_enter Try.func34, Try.ntmps34
  go_wp2_with fail
  go_loopw [5] (fun iv wr => ∃ i : Nat, i ≤ n ∧ iv = .int .i64 (i : Int) ∧ ∃ k, wr = w.drewN k) (fun iv _ => n - (intOf iv).toNat)
  case atStart => exact ⟨0, Nat.zero_le _, rfl, 0, rfl⟩
  case round =>
    obtain ⟨i, hi, rfl, k, rfl⟩ := hrel
    by_cases hlt : i < n
    · obtain ⟨b, off, rfl, hbw, hcell⟩ := h.at_ (by omega)
      obtain ⟨b', off', rfl, hbw', hcell'⟩ := h'.at_ (by omega)
      have h1 := hcell i hlt
      have h2 := hcell' i hlt
      rw [bools_getD _ _ (by rw [Hlen.out]; exact hlt)] at h1 h2
      generalize xs.getD i false = y at *
      have c1 : ((w.drewN k).drew).cell? ⟨b, off + i, none⟩ = some (.bool y) := h1
      have c2 : ((w.drewN k).drew).cell? ⟨b', off' + i, none⟩ = some (.bool y) := h2
      clear hcell hcell'
      go_wp2_with fail
      go_region
      all_goals cases y
      all_goals go_wp2_with fail
      all_goals (refine ⟨⟨i + 1, by omega, by go_num, k + 1, rfl⟩, by simp only [intOf]; omega⟩)
    · go_wp2_with fail
      go_ret
      exact ⟨rfl, ⟨rfl, rfl, rfl, Nat.le_refl _, fun _ _ => rfl⟩⟩
end Go.Proofs.Ytcmmgehghlaofaa
