/- The reference's Run, Used, Decode, at the bytes of runs. -/
import Derived.Test.YtcmmgehghlaofaaBrleDec
namespace Go.Proofs.Ytcmmgehghlaofaa
open Go.RowKit
set_option linter.unusedVariables false

set_option maxHeartbeats 1600000 in
set_option maxRecDepth 4000 in
theorem rrun_rep0 (A : Option Addr) (n c : Nat) (bs : List Nat) (k d x : Nat) (post : List Nat) (w : World) (hs : Sl w A n c (nats .u8 bs)) (hd : bs.drop k = x :: d :: post) (hx : x ≤ 127) :
    Calls Try.prog 92 #[.slice A n c, .int .i64 (k : Int)] w fun e w' => ∃ A' c', e = .returned (.tuple #[.slice A' (x + 3) c', .int .i64 ((k : Int) + 1 + 1), .int .i64 0]) ∧ Sl w' A' (x + 3) c' (nats .u8 (List.replicate (x + 3) d)) ∧ Below w.heap.size w w' := by
  obtain ⟨b, off, hA, hbw, hkn, hc0⟩ := hs.byte hd
  obtain ⟨_, _, hd1⟩ := get_of_drop hd
  obtain ⟨b', off', hA', _, hkn1, hc1⟩ := hs.byte hd1
  subst hA
  injection hA' with hA'
  injection hA' with e1 e2
  subst e1 e2
  have hle := hs.le
  have hmax := hs.max
  obtain ⟨i0, hi, hz0, hz1, hz2⟩ := info_parts Try.info5
  unfold maxLen at hmax
  have Hc1 := Lib.hid hc1
  clear hs hd hd1 hc1
  go_enter Try.func92, Try.ntmps92
  go_wp2_with fail
  go_loopw [8, 9] (fun ov iv wr => ∃ (i : Nat) (A' : Option Addr) (c' : Nat), i ≤ x + 3 ∧ iv = .int .i64 (i : Int) ∧ ov = .slice A' i c' ∧ wr.ownsRow w.heap.size 5 1 (.slice A' i c') i (nats .u8 (List.replicate i d)) ∧ Below w.heap.size w wr) (fun _ iv _ => x + 3 - (intOf iv).toNat)
  case atStart => exact ⟨0, none, 0, by omega, rfl, rfl, World.ownsRow_nil _ _ _ _, Below.refl _ _⟩
  case round =>
    obtain ⟨i, A', c', hi', rfl, rfl, hown, hb⟩ := hrel
    have Hown := Lib.hid hown
    clear hown
    by_cases hlt : i < x + 3
    · have hlt' : (i : Int) < (x : Int) + 3 := by omega
      have hcx : wr.cell? ⟨b, off + (k + 1), none⟩ = some (.int .u8 (d : Int)) := (hb.cell (p := ⟨b, off + (k + 1), none⟩) hbw).trans Hc1.out
      have hsz := hb.size
      go_wp2_with (at_builtin; refine wpList_append_sl rfl _ _ 22 rfl w.heap.size 5 i0 (.int .u8 0) 1 Try.underlying22 hi hz0 hz1 hz2 rfl _ i _ rfl (Hown.out.alloc _) (some ⟨wr.heap.size, 0, none⟩) 1 1 [.int .u8 (d : Int)] rfl (Sl.one_new wr (.int .u8 (d : Int)) _ rfl) ?c1 ?c2 ?c3 ?_)
      case c1 => unfold maxLen; omega
      case c2 => omega
      case c3 => simp; omega
      intro v2 w2 ho2 hb2 _ _
      obtain ⟨A2, c2, rfl, s2⟩ := Sl.of_own ho2 (fun u hu => (List.mem_append.1 hu).elim (nats_one _ _ u) (fun h => by simp at h; subst h; rfl))
      have H2 : Hid (w2.ownsRow w.heap.size 5 1 (.slice A2 (i + 1) c2) (i + 1) (nats .u8 (List.replicate (i + 1) d))) := by
        rw [List.replicate_succ', nats_append]; exact ho2
      have hb3 := (hb.alloc hsz _).trans hb2
      clear ho2 s2 hb2
      go_wp2_with fail
      exact ⟨⟨i + 1, A2, c2, by omega, by first | rfl | simp, by first | rfl | trivial, H2.out, hb3⟩, by simp only [intOf]; omega⟩
    · obtain rfl : i = x + 3 := by omega
      have hs3 : Sl wr A' (x + 3) c' (nats .u8 (List.replicate (x + 3) d)) := by
        obtain ⟨A3, c3, hv, hs3⟩ := Sl.of_own Hown.out (nats_one _ _)
        injection hv with e1 e2 e3
        subst e1 e3
        exact hs3
      have Hs3 := Lib.hid hs3
      clear hs3 hlt
      go_wp2_with fail
      go_ret3
      exact ⟨A', c', rfl, Hs3.out, hb⟩

set_option maxHeartbeats 1600000 in
set_option maxRecDepth 4000 in
theorem rrun_lit0 (A : Option Addr) (n c : Nat) (bs : List Nat) (k y m : Nat) (l post : List Nat) (w : World) (hs : Sl w A n c (nats .u8 bs)) (hd : bs.drop k = y :: (l ++ post)) (hl : l.length = m) (h1 : 128 ≤ y) (hy : y < 256) (hm : y + m = 256) :
    Calls Try.prog 92 #[.slice A n c, .int .i64 (k : Int)] w fun e w' => ∃ A' c', e = .returned (.tuple #[.slice A' m c', .int .i64 ((k : Int) + 1 + m), .int .i64 0]) ∧ Sl w' A' m c' (nats .u8 l) ∧ Below w.heap.size w w' := by
  obtain ⟨b, off, rfl, hbw, hkn, hc0⟩ := hs.byte hd
  obtain ⟨_, _, hd1⟩ := get_of_drop hd
  have hle := hs.le
  have hmax := hs.max
  have hlen := hs.len
  rw [nats_length] at hlen
  have hfit : k + 1 + m ≤ n := by
    have := congrArg List.length hd1
    rw [List.length_drop, List.length_append, hl] at this
    omega
  have hb0 := below_new w (.cells #[] 5)
  have hcut := (hs.keep hb0).cut (k + 1) (k + 1 + m) (by omega) (by omega)
  rw [show k + 1 + m - (k + 1) = m from by omega, nats, ← List.map_drop, ← List.map_take, hd1, List.take_left' hl] at hcut
  obtain ⟨i0, hi, hz0, hz1, hz2⟩ := info_parts Try.info5
  have hsl := run_slice_lohi (w := w.alloc (.cells #[] 5)) (P := Try.prog) Try.underlying22 hi hz1 (some ⟨b, off, none⟩) n c (k + 1) (k + 1 + m) (by omega) (by omega) hle hmax
  rw [show k + 1 + m - (k + 1) = m from by omega, show ((k + 1 : Nat) : Int) = (k : Int) + 1 from by omega, show ((k + 1 + m : Nat) : Int) = (k : Int) + 1 + (256 - y) from by omega] at hsl
  have Hcut := Lib.hid hcut
  have Hm := Lib.hid hm
  have hfit' : (k : Int) + 1 + (256 - y) ≤ n := by omega
  have hm2 : m ≤ 128 := by omega
  generalize dropA (some (⟨b, off, none⟩ : Addr)) c (k + 1) = A2 at *
  generalize c - (k + 1) = c2 at *
  unfold maxLen at hmax
  have ho : (w.alloc (.cells #[] 5)).ownsRow w.heap.size 5 1 (.slice (some ⟨w.heap.size, 0, none⟩) 0 0) 0 [] := World.ownsRow_made w #[] 0 (Nat.le_refl _) (by decide) rfl
  clear hcut hs hd hd1 hl hlen hm
  go_enter Try.func92, Try.ntmps92
  go_wp2_with (at_builtin; refine wpList_append_sl rfl _ _ 22 rfl w.heap.size 5 i0 (.int .u8 0) 1 Try.underlying22 hi hz0 hz1 hz2 rfl _ 0 [] rfl ho A2 m c2 _ rfl Hcut.out ?c1 ?c2 ?c3 ?_)
  case c1 => unfold maxLen; omega
  case c2 => omega
  case c3 => simp
  intro v2 w2 ho2 hb2 _ _
  obtain ⟨A3, c3, rfl, s2⟩ := Sl.of_own ho2 (nats_one _ _)
  have Hs2 := Lib.hid s2
  have hb3 := hb0.trans hb2
  clear ho2 s2 hb2 ho
  go_wp2_with fail
  go_ret3
  have := Hm.out
  rw [show (k : Int) + 1 + (m : Int) = (k : Int) + 1 + (256 - (y : Int)) from by omega]
  exact ⟨A3, c3, rfl, Hs2.out, hb3⟩

theorem rrun_at (A : Option Addr) (n c : Nat) (bs : List Nat) (k : Nat) (r : Run) (post : List Nat) (w : World) (hs : Sl w A n c (nats .u8 bs)) (hok : r.ok) (hd : bs.drop k = r.bytes ++ post) :
    Calls Try.prog 92 #[.slice A n c, .int .i64 (k : Int)] w fun e w' => ∃ A' c', e = .returned (.tuple #[.slice A' r.told.length c', .int .i64 ((k + r.bytes.length : Nat) : Int), .int .i64 0]) ∧ Sl w' A' r.told.length c' (nats .u8 r.told) ∧ Below w.heap.size w w' := by
  cases r with
  | rep d m =>
    obtain ⟨h1, h2, h3⟩ := hok
    have h := rrun_rep0 A n c bs k d (m - 3) post w hs hd (by omega)
    rw [show m - 3 + 3 = m from by omega] at h
    refine h.mono ?_
    rintro e w' ⟨A', c', rfl, h4, h5⟩
    have e1 : (Run.told (.rep d m)).length = m := by simp [Run.told]
    have e2 : ((k + (Run.rep d m).bytes.length : Nat) : Int) = (k : Int) + 1 + 1 := by simp [Run.bytes]; omega
    rw [e1, e2]
    exact ⟨A', c', rfl, h4, h5⟩
  | lit l =>
    obtain ⟨h1, h2, h3⟩ := hok
    refine (rrun_lit0 A n c bs k (256 - l.length) l.length l post w hs hd rfl (by omega) (by omega) (by omega)).mono ?_
    rintro e w' ⟨A', c', rfl, h4, h5⟩
    have e1 : ((k + (Run.lit l).bytes.length : Nat) : Int) = (k : Int) + 1 + (l.length : Int) := by simp [Run.bytes]; omega
    rw [e1]
    exact ⟨A', c', rfl, h4, h5⟩

structure RefSt (w : World) (all : List Run) (m k : Nat) (rs : List Run) (v : Value) (wr : World) : Prop where
  ex : ∃ pre, all = pre ++ rs ∧ (runsT pre).length = m ∧ (runsB pre).length = k ∧ wr.ownsRow w.heap.size 5 1 v m (nats .u8 (runsT pre))
  bel : Below w.heap.size w wr

set_option maxHeartbeats 3200000 in
set_option maxRecDepth 4000 in
theorem rused_p (A : Option Addr) (n c : Nat) (all : List Run) (count : Nat) (w : World) (hs : Sl w A n c (nats .u8 (runsB all))) (hok : runsOk all) (hc : count ≤ 16384) (hcount : (runsT all).length = count) :
    Calls Try.prog 67 #[.slice A n c, .int .i64 (count : Int)] w fun e w' => ∃ A' c', e = .returned (.tuple #[.slice A' count c', .int .i64 (n : Int), .int .i64 0]) ∧ Sl w' A' count c' (nats .u8 (runsT all)) ∧ Below w.heap.size w w' := by
  have hle := hs.le
  have hmax := hs.max
  have hlen := hs.len
  rw [nats_length] at hlen
  have H0 : RefSt w all 0 0 all (.slice none 0 0) w := ⟨⟨[], rfl, rfl, rfl, World.ownsRow_nil _ _ _ _⟩, Below.refl _ _⟩
  obtain ⟨i0, hi, hz0, hz1, hz2⟩ := info_parts Try.info5
  have Hlen := Lib.hid hlen
  have Hs := Lib.hid hs
  have Hok := Lib.hid hok
  have Hcount := Lib.hid hcount
  unfold maxLen at hmax
  clear hlen hs hok hcount
  go_enter Try.func67, Try.ntmps67
  go_wp2_with fail
  go_loopw [7, 8] (fun ov av wr => ∃ (m k : Nat) (rs : List Run) (A' : Option Addr) (c' : Nat), m ≤ 20000 ∧ k ≤ n ∧ ov = .slice A' m c' ∧ av = .int .i64 (k : Int) ∧ RefSt w all m k rs (.slice A' m c') wr) (fun ov _ _ => count - lenV ov)
  case atStart => exact ⟨0, 0, all, none, 0, by omega, by omega, rfl, rfl, H0⟩
  case round =>
    obtain ⟨m, k, rs, A', c', hm, hk, rfl, rfl, hst⟩ := hrel
    obtain ⟨⟨pre, hpre, hm', hk', hown⟩, hbel⟩ := hst
    have hs2 := Hs.out.keep hbel
    have hn2 := Hlen.out
    rw [hpre, runsB_append, List.length_append, hk'] at hn2
    have hc2 := Hcount.out
    rw [hpre, runsT_append, List.length_append, hm'] at hc2
    have hdrop : (runsB all).drop k = runsB rs := by rw [hpre, runsB_append, ← hk', List.drop_left]
    by_cases hlt : m < count
    · cases rs with
      | nil => simp [runsT] at hc2; omega
      | cons r rs =>
        have hrok : r.ok := Hok.out r (by rw [hpre]; simp)
        have ht := Run.told_pos hrok
        have hrun := rrun_at A n c (runsB all) k r (runsB rs) wr hs2 hrok (by rw [hdrop, runsB_cons])
        have hkk : k + r.bytes.length ≤ n := by rw [runsB_cons, List.length_append] at hn2; omega
        have Hst : Hid (∀ v' w', w'.ownsRow w.heap.size 5 1 v' (m + r.told.length) (nats .u8 (runsT pre) ++ nats .u8 r.told) → Below w.heap.size w w' → RefSt w all (m + r.told.length) (k + r.bytes.length) rs v' w') := fun v' w' ho hb =>
          ⟨⟨pre ++ [r], by rw [hpre]; simp, by rw [runsT_append, List.length_append, hm']; simp [runsT], by rw [runsB_append, List.length_append, hk']; simp [runsB], by rw [runsT_append, show runsT [r] = r.told from by simp [runsT], nats_append]; exact ho⟩, hb⟩
        obtain ⟨ht1, ht2⟩ := ht
        generalize r.told = tl at *
        generalize htn : tl.length = tn at *
        generalize hkb : k + r.bytes.length = kb at *
        have Hown := Lib.hid hown
        have Hrun := Lib.hid hrun
        clear hdrop hn2 hc2 hs2 hpre hm' hk' hrun hrok htn hown hkb
        go_wp2_with fail
        refine Hrun.out.mono ?_
        rintro e w1 ⟨A1, c1, rfl, hs1, hb1⟩
        have hown1 := World.ownsRow.below Hown.out hb1
        have hsz := hb1.size
        have hsz0 := hbel.size
        go_wp2_with (at_builtin; refine wpList_append_sl rfl _ _ 22 rfl w.heap.size 5 i0 (.int .u8 0) 1 Try.underlying22 hi hz0 hz1 hz2 rfl _ m _ rfl hown1 _ tn c1 _ rfl hs1 ?c1 ?c2 ?c3 ?_)
        case c1 => unfold maxLen; omega
        case c2 => omega
        case c3 => omega
        intro v2 w2 ho2 hb2 _ _
        obtain ⟨A2, c2, rfl, s2⟩ := Sl.of_own ho2 (fun u hu => (List.mem_append.1 hu).elim (nats_one _ _ u) (nats_one _ _ u))
        have H2 := Lib.hid (Hst.out _ _ ho2 ((below_trans' hbel hb1).trans hb2))
        clear ho2 s2 hs1 hown1
        go_wp2_with fail
        exact ⟨⟨m + tn, kb, rs, A2, c2, by omega, hkk, by first | rfl | trivial, by first | rfl | simp, H2.out⟩, by simp only [lenV]; omega⟩
    · have hrs : rs = [] := by
        cases rs with
        | nil => rfl
        | cons r rs =>
          have hrok : r.ok := Hok.out r (by rw [hpre]; simp)
          have ht := Run.told_pos hrok
          rw [runsT_cons, List.length_append] at hc2
          omega
      subst hrs
      have hkn : k = n := by simpa [runsB] using hn2
      have hmc : m = count := by simpa [runsT] using hc2
      subst hkn hmc
      have hs3 : Sl wr A' m c' (nats .u8 (runsT all)) := by
        obtain ⟨A3, c3, hv, hs3⟩ := Sl.of_own hown (nats_one _ _)
        injection hv with e1 e2 e3
        subst e1 e3
        rw [hpre, List.append_nil]
        exact hs3
      have Hs3 := Lib.hid hs3
      clear hdrop hn2 hc2 hs2 hpre hm' hk' hown hs3 hlt
      go_wp2_with fail
      go_ret3
      exact ⟨A', c', rfl, Hs3.out, hbel⟩

set_option maxHeartbeats 1600000 in
theorem rdec_p (A : Option Addr) (n c : Nat) (all : List Run) (count : Nat) (w : World) (hs : Sl w A n c (nats .u8 (runsB all))) (hok : runsOk all) (hc : count ≤ 16384) (hcount : (runsT all).length = count) :
    Calls Try.prog 25 #[.slice A n c, .int .i64 (count : Int)] w fun e w' => ∃ A' c', e = .returned (.tuple #[.slice A' count c', .int .i64 0]) ∧ Sl w' A' count c' (nats .u8 (runsT all)) ∧ Below w.heap.size w w' := by
  have Hu := Lib.hid (rused_p A n c all count w hs hok hc hcount)
  have hle := hs.le
  have hmax := hs.max
  unfold maxLen at hmax
  clear hs hok hcount
  go_enter Try.func25, Try.ntmps25
  go_wp2_with fail
  refine Hu.out.mono ?_
  rintro e w1 ⟨A', c', rfl, hs1, hb1⟩
  have Hs1 := Lib.hid hs1
  clear hs1
  go_wp2_with fail
  go_ret2
  exact ⟨A', c', rfl, Hs1.out, hb1⟩
end Go.Proofs.Ytcmmgehghlaofaa
