/- brle.run and the reference's Run, at the bytes of a run. -/
import Derived.Test.YtcmmgehghlaofaaBrleRep
import Derived.Test.YtcmmgehghlaofaaClone
namespace Go.Proofs.Ytcmmgehghlaofaa
open Go.RowKit
set_option linter.unusedVariables false

theorem get_of_drop {l : List Nat} {k x : Nat} {m : List Nat} (h : l.drop k = x :: m) : k < l.length ∧ l.getD k 0 = x ∧ l.drop (k + 1) = m := by
  have hk : k < l.length := by
    rcases Nat.lt_or_ge k l.length with h1 | h1
    · exact h1
    · rw [List.drop_eq_nil_of_le h1] at h; cases h
  rw [List.drop_eq_getElem_cons hk] at h
  injection h with h1 h2
  exact ⟨hk, by simp [hk, h1], h2⟩

theorem Sl.byte {w : World} {A : Option Addr} {n c : Nat} {bs : List Nat} (h : Sl w A n c (nats .u8 bs)) {k x : Nat} {m : List Nat} (hd : bs.drop k = x :: m) :
    ∃ b off, A = some ⟨b, off, none⟩ ∧ b < w.heap.size ∧ k < n ∧ w.cell? ⟨b, off + k, none⟩ = some (.int .u8 (x : Int)) := by
  obtain ⟨hk, hx, _⟩ := get_of_drop hd
  have hl := h.len
  rw [nats_length] at hl
  obtain ⟨b, off, hA, hb, hc⟩ := h.at_ (by omega)
  exact ⟨b, off, hA, hb, by omega, by rw [hc k (by omega), nats_getD _ _ _ hk, hx]⟩

set_option maxHeartbeats 1600000 in
set_option maxRecDepth 4000 in
theorem brun_end (A : Option Addr) (n c : Nat) (w : World) (hn : n ≤ c) (hc : c ≤ maxLen) : Calls Try.prog 66 #[.slice A n c, .int .i64 (n : Int)] w fun e w' => e = .returned (.tuple #[.slice none 0 0, .int .i64 0, .int .i64 3]) ∧ w = w' := by
  unfold maxLen at hc
  go_enter Try.func66, Try.ntmps66
  go_wp2_with fail
  go_ret3
  exact ⟨rfl, rfl⟩

set_option maxHeartbeats 1600000 in
set_option maxRecDepth 4000 in
theorem brun_rep0 (A : Option Addr) (n c : Nat) (bs : List Nat) (k d x : Nat) (post : List Nat) (w : World) (hs : Sl w A n c (nats .u8 bs)) (hd : bs.drop k = x :: d :: post) (hx : x ≤ 127) :
    Calls Try.prog 66 #[.slice A n c, .int .i64 (k : Int)] w fun e w' => ∃ A', e = .returned (.tuple #[.slice A' (x + 3) (x + 3), .int .i64 2, .int .i64 0]) ∧ Sl w' A' (x + 3) (x + 3) (nats .u8 (List.replicate (x + 3) d)) ∧ Below w.heap.size w w' := by
  obtain ⟨b, off, hA, hbw, hkn, hc0⟩ := hs.byte hd
  obtain ⟨_, _, hd1⟩ := get_of_drop hd
  obtain ⟨b', off', hA', _, hkn1, hc1⟩ := hs.byte hd1
  subst hA
  injection hA' with hA'
  injection hA' with e1 e2
  subst e1 e2
  have hle := hs.le
  have hmax := hs.max
  have hcut := hs.cut (k + 1) (k + 2) (by omega) (by omega)
  rw [show k + 2 - (k + 1) = 1 from by omega, nats, ← List.map_drop, ← List.map_take, hd1, List.take_succ_cons, List.take_zero] at hcut
  obtain ⟨i0, hi, hz0, hz1, hz2⟩ := info_parts Try.info5
  have hsl := run_slice_lohi (w := w) (P := Try.prog) Try.underlying22 hi hz1 (some ⟨b, off, none⟩) n c (k + 1) (k + 2) (by omega) (by omega) hle hmax
  rw [show k + 2 - (k + 1) = 1 from by omega, show ((k + 1 : Nat) : Int) = (k : Int) + 1 from by omega, show ((k + 2 : Nat) : Int) = (k : Int) + 2 from by omega] at hsl
  have hrep := repeat_one _ _ d (x + 3) w hcut (by omega) (by omega)
  rw [show ((x + 3 : Nat) : Int) = (x : Int) + 3 from by omega] at hrep
  have Hrep := Lib.hid hrep
  generalize dropA (some (⟨b, off, none⟩ : Addr)) c (k + 1) = A2 at *
  generalize c - (k + 1) = c2 at *
  unfold maxLen at hmax
  clear hcut hs hd hd1 hc1 hrep
  go_enter Try.func66, Try.ntmps66
  go_wp2_with fail
  refine Hrep.out.mono ?_
  rintro e w1 ⟨A', rfl, hs', hb'⟩
  go_wp2_with fail
  go_ret3
  exact ⟨_, rfl, hs', hb'⟩
theorem brun_rep (A : Option Addr) (n c : Nat) (bs : List Nat) (k d r : Nat) (post : List Nat) (w : World) (hs : Sl w A n c (nats .u8 bs)) (hd : bs.drop k = (r - 3) :: d :: post) (h3 : 3 ≤ r) (hr : r ≤ 130) :
    Calls Try.prog 66 #[.slice A n c, .int .i64 (k : Int)] w fun e w' => ∃ A', e = .returned (.tuple #[.slice A' r r, .int .i64 2, .int .i64 0]) ∧ Sl w' A' r r (nats .u8 (List.replicate r d)) ∧ Below w.heap.size w w' := by
  have h := brun_rep0 A n c bs k d (r - 3) post w hs hd (by omega)
  rw [show r - 3 + 3 = r from by omega] at h
  exact h

set_option maxHeartbeats 1600000 in
set_option maxRecDepth 4000 in
theorem brun_lit0 (A : Option Addr) (n c : Nat) (bs : List Nat) (k y m : Nat) (l post : List Nat) (w : World) (hs : Sl w A n c (nats .u8 bs)) (hd : bs.drop k = y :: (l ++ post)) (hl : l.length = m) (h1 : 128 ≤ y) (hy : y < 256) (hm : y + m = 256) :
    Calls Try.prog 66 #[.slice A n c, .int .i64 (k : Int)] w fun e w' => ∃ A' c', e = .returned (.tuple #[.slice A' m c', .int .i64 (1 + (m : Int)), .int .i64 0]) ∧ Sl w A' m c' (nats .u8 l) ∧ w = w' := by
  obtain ⟨b, off, rfl, hbw, hkn, hc0⟩ := hs.byte hd
  obtain ⟨_, _, hd1⟩ := get_of_drop hd
  have hle := hs.le
  have hmax := hs.max
  have hlen := hs.len
  rw [nats_length] at hlen
  have hfit : k + 1 + m ≤ n := by
    have := congrArg List.length hd1
    rw [List.length_drop, List.length_append, hl] at this
    omega
  have hcut := hs.cut (k + 1) (k + 1 + m) (by omega) (by omega)
  rw [show k + 1 + m - (k + 1) = m from by omega, nats, ← List.map_drop, ← List.map_take, hd1, List.take_left' hl] at hcut
  obtain ⟨i0, hi, hz0, hz1, hz2⟩ := info_parts Try.info5
  have hsl := run_slice_lohi (w := w) (P := Try.prog) Try.underlying22 hi hz1 (some ⟨b, off, none⟩) n c (k + 1) (k + 1 + m) (by omega) (by omega) hle hmax
  rw [show k + 1 + m - (k + 1) = m from by omega, show ((k + 1 : Nat) : Int) = (k : Int) + 1 from by omega, show ((k + 1 + m : Nat) : Int) = (k : Int) + 1 + (256 - y) from by omega] at hsl
  have Hcut := Lib.hid hcut
  have Hm := Lib.hid hm
  have hfit' : (k : Int) + 1 + (256 - y) ≤ n := by omega
  generalize dropA (some (⟨b, off, none⟩ : Addr)) c (k + 1) = A2 at *
  generalize c - (k + 1) = c2 at *
  unfold maxLen at hmax
  clear hcut hs hd hd1 hl hlen hm
  go_enter Try.func66, Try.ntmps66
  go_wp2_with fail
  go_ret3
  have := Hm.out
  rw [show (1 : Int) + (m : Int) = 1 + (256 - (y : Int)) from by omega]
  exact ⟨_, _, rfl, Hcut.out, rfl⟩
theorem brun_lit (A : Option Addr) (n c : Nat) (bs : List Nat) (k m : Nat) (l post : List Nat) (w : World) (hs : Sl w A n c (nats .u8 bs)) (hd : bs.drop k = (256 - m) :: (l ++ post)) (hl : l.length = m) (h1 : 1 ≤ m) (hm : m ≤ 128) :
    Calls Try.prog 66 #[.slice A n c, .int .i64 (k : Int)] w fun e w' => ∃ A' c', e = .returned (.tuple #[.slice A' m c', .int .i64 (1 + (m : Int)), .int .i64 0]) ∧ Sl w A' m c' (nats .u8 l) ∧ w = w' :=
  brun_lit0 A n c bs k (256 - m) m l post w hs hd hl (by omega) (by omega) (by omega)

/-- The run at a place. -/
theorem brun_at (A : Option Addr) (n c : Nat) (bs : List Nat) (k : Nat) (r : Run) (post : List Nat) (w : World) (hs : Sl w A n c (nats .u8 bs)) (hok : r.ok) (hd : bs.drop k = r.bytes ++ post) :
    Calls Try.prog 66 #[.slice A n c, .int .i64 (k : Int)] w fun e w' => ∃ A' c', e = .returned (.tuple #[.slice A' r.told.length c', .int .i64 (r.bytes.length : Int), .int .i64 0]) ∧ Sl w' A' r.told.length c' (nats .u8 r.told) ∧ Below w.heap.size w w' := by
  cases r with
  | rep d m =>
    obtain ⟨h1, h2, h3⟩ := hok
    refine (brun_rep A n c bs k d m post w hs hd h1 h2).mono ?_
    rintro e w' ⟨A', rfl, h4, h5⟩
    have e1 : (Run.told (.rep d m)).length = m := by simp [Run.told]
    rw [e1]
    exact ⟨A', m, rfl, h4, h5⟩
  | lit l =>
    obtain ⟨h1, h2, h3⟩ := hok
    refine (brun_lit A n c bs k l.length l post w hs hd rfl h1 h2).mono ?_
    rintro e w' ⟨A', c', rfl, h4, rfl⟩
    have e1 : (((Run.lit l).bytes.length : Nat) : Int) = 1 + (l.length : Int) := by simp [Run.bytes]; omega
    rw [e1]
    exact ⟨A', c', rfl, h4, Below.refl _ _⟩
end Go.Proofs.Ytcmmgehghlaofaa
