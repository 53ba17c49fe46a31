/- brle.Decode and brle.Used, at the bytes of runs. -/
import Derived.Test.YtcmmgehghlaofaaBrleRun
namespace Go.Proofs.Ytcmmgehghlaofaa
open Go.RowKit
set_option linter.unusedVariables false

def lenV : Value → Nat
  | .slice _ n _ => n
  | _ => 0

structure DecSt (w : World) (all : List Run) (R : List Nat × Nat) (count m k : Nat) (rs : List Run) (v : Value) (wr : World) : Prop where
  ex : ∃ pre, all = pre ++ rs ∧ (runsT pre).length = m ∧ (runsB pre).length = k ∧ decS rs (runsT pre) count = R ∧ wr.ownsRow w.heap.size 5 1 v m (nats .u8 (runsT pre))
  bel : Below w.heap.size w wr

theorem runsB_pos (r : Run) (rs : List Run) : 1 ≤ (runsB (r :: rs)).length := by
  rw [runsB_cons, List.length_append]
  cases r <;> simp [Run.bytes] <;> omega

set_option maxHeartbeats 3200000 in
set_option maxRecDepth 4000 in
theorem bdec_p (A : Option Addr) (n c : Nat) (all : List Run) (count : Nat) (w : World) (hs : Sl w A n c (nats .u8 (runsB all))) (hok : runsOk all) (hc : count ≤ 16384) :
    Calls Try.prog 24 #[.slice A n c, .int .i64 (count : Int)] w fun e w' => ∃ A' m, e = .returned (.tuple #[.slice A' m m, .int .i64 ((decS all [] count).2 : Int)]) ∧ Sl w' A' m m (nats .u8 (decS all [] count).1) ∧ Below w.heap.size w w' := by
  have hle := hs.le
  have hmax := hs.max
  have hlen := hs.len
  rw [nats_length] at hlen
  obtain ⟨R, hR⟩ : ∃ R, R = decS all [] count := ⟨_, rfl⟩
  rw [← hR]
  have H0 : DecSt w all R count 0 0 all (.slice none 0 0) w := ⟨⟨[], rfl, rfl, rfl, hR.symm, World.ownsRow_nil _ _ _ _⟩, Below.refl _ _⟩
  obtain ⟨i0, hi, hz0, hz1, hz2⟩ := info_parts Try.info5
  have Hlen := Lib.hid hlen
  have Hs := Lib.hid hs
  have Hok := Lib.hid hok
  unfold maxLen at hmax
  clear hlen hR hs hok
  go_enter Try.func24, Try.ntmps24
  go_wp2_with fail
  go_loopw [6, 7] (fun ov av wr => ∃ (m k : Nat) (rs : List Run) (A' : Option Addr) (c' : Nat), m ≤ 20000 ∧ k ≤ n ∧ ov = .slice A' m c' ∧ av = .int .i64 (k : Int) ∧ DecSt w all R count m k rs (.slice A' m c') wr) (fun ov _ _ => count - lenV ov)
  case atStart => exact ⟨0, 0, all, none, 0, by omega, by omega, rfl, rfl, H0⟩
  case round =>
    obtain ⟨m, k, rs, A', c', hm, hk, rfl, rfl, hst⟩ := hrel
    obtain ⟨⟨pre, hpre, hm', hk', hdec, hown⟩, hbel⟩ := hst
    have hs2 := Hs.out.keep hbel
    have hn2 := Hlen.out
    rw [hpre, runsB_append, List.length_append, hk'] at hn2
    have hdrop : (runsB all).drop k = runsB rs := by rw [hpre, runsB_append, ← hk', List.drop_left]
    by_cases hlt : m < count
    · cases rs with
      | nil =>
        have hkn : k = n := by simpa [runsB] using hn2
        have hRv : R = ([], 3) := by
          rw [← hdec]; unfold decS; rw [if_pos (by omega)]
        have HRv := Lib.hid hRv
        have Hend := Lib.hid (brun_end A n c wr hle (by unfold maxLen; omega))
        subst hkn
        clear hdrop hn2 hs2 hdec hpre hm' hk' hRv hown
        go_wp2_with fail
        refine Hend.out.mono ?_
        rintro e w1 ⟨rfl, rfl⟩
        go_wp2_with fail
        go_ret2
        rw [HRv.out]
        exact ⟨none, 0, rfl, Sl.none_ _, hbel⟩
      | cons r rs =>
        have hrok : r.ok := Hok.out r (by rw [hpre]; simp)
        have ht := Run.told_pos hrok
        have hrun := brun_at A n c (runsB all) k r (runsB rs) wr hs2 hrok (by rw [hdrop, runsB_cons])
        have hdec' : decS rs (runsT pre ++ r.told) count = R := by
          rw [← hdec]; conv => rhs; unfold decS
          rw [if_pos (by omega)]
        have hkk : k + r.bytes.length ≤ n := by rw [runsB_cons, List.length_append] at hn2; omega
        have Hst : Hid (∀ v' w', w'.ownsRow w.heap.size 5 1 v' (m + r.told.length) (nats .u8 (runsT pre) ++ nats .u8 r.told) → Below w.heap.size w w' → DecSt w all R count (m + r.told.length) (k + r.bytes.length) rs v' w') := fun v' w' ho hb =>
          ⟨⟨pre ++ [r], by rw [hpre]; simp, by rw [runsT_append, List.length_append, hm']; simp [runsT], by rw [runsB_append, List.length_append, hk']; simp [runsB], by rw [runsT_append, show runsT [r] = r.told from by simp [runsT]]; exact hdec', by rw [runsT_append, show runsT [r] = r.told from by simp [runsT], nats_append]; exact ho⟩, hb⟩
        obtain ⟨ht1, ht2⟩ := ht
        generalize r.told = tl at *
        generalize htn : tl.length = tn at *
        generalize r.bytes.length = bn at *
        have Hown := Lib.hid hown
        have Hrun := Lib.hid hrun
        clear hdrop hn2 hs2 hdec hpre hm' hk' hdec' hrun hrok htn hown
        go_wp2_with fail
        refine Hrun.out.mono ?_
        rintro e w1 ⟨A1, c1, rfl, hs1, hb1⟩
        have hown1 := World.ownsRow.below Hown.out hb1
        have hsz := hb1.size
        have hsz0 := hbel.size
        go_wp2_with (at_builtin; refine wpList_append_sl rfl _ _ 22 rfl w.heap.size 5 i0 (.int .u8 0) 1 Try.underlying22 hi hz0 hz1 hz2 rfl _ m _ rfl hown1 _ tn c1 _ rfl hs1 ?c1 ?c2 ?c3 ?_)
        case c1 => unfold maxLen; omega
        case c2 => omega
        case c3 => omega
        intro v2 w2 ho2 hb2 _ _
        obtain ⟨A2, c2, rfl, s2⟩ := Sl.of_own ho2 (fun u hu => (List.mem_append.1 hu).elim (nats_one _ _ u) (nats_one _ _ u))
        have H2 := Lib.hid (Hst.out _ _ ho2 ((below_trans' hbel hb1).trans hb2))
        clear ho2 s2 hs1 hown1
        go_wp2_with fail
        exact ⟨⟨m + tn, k + bn, rs, A2, c2, by omega, hkk, by first | rfl | trivial, by first | rfl | simp, H2.out⟩, by simp only [lenV]; omega⟩
    · by_cases hg : k < n ∨ count < m
      · have hRv : R = ([], 2) := by
          rw [← hdec]
          cases rs with
          | nil =>
            have hkn : k = n := by simpa [runsB] using hn2
            unfold decS; rw [if_neg (by omega), if_pos (by omega)]
          | cons r rs => unfold decS; rw [if_neg (by omega)]
        have HRv := Lib.hid hRv
        clear hdrop hn2 hs2 hdec hpre hm' hk' hRv hown
        by_cases hg1 : k < n
        · go_wp2_with fail
          go_ret2
          rw [HRv.out]
          exact ⟨none, 0, rfl, Sl.none_ _, hbel⟩
        · have hg2 : count < m := by omega
          go_wp2_with fail
          go_ret2
          rw [HRv.out]
          exact ⟨none, 0, rfl, Sl.none_ _, hbel⟩
      · have hrs : rs = [] := by
          cases rs with
          | nil => rfl
          | cons r rs => have := runsB_pos r rs; omega
        subst hrs
        have hRv : R = (runsT pre, 0) := by
          rw [← hdec]; unfold decS; rw [if_neg (by omega), if_neg (by omega)]
        have hkn : ¬ k < n := by omega
        have hcm : ¬ count < m := by omega
        have hs3 : Sl wr A' m c' (nats .u8 (runsT pre)) := by
          obtain ⟨A3, c3, hv, hs3⟩ := Sl.of_own hown (nats_one _ _)
          injection hv with e1 e2 e3
          subst e1 e3
          exact hs3
        have Hclip := Lib.hid (clip_u8 A' m c' _ wr hs3)
        have HRv := Lib.hid hRv
        clear hdrop hn2 hs2 hdec hpre hm' hk' hRv hown hg
        go_wp2_with fail
        refine Hclip.out.mono ?_
        rintro e w1 ⟨rfl, hs4, rfl⟩
        have Hs4 := Lib.hid hs4
        clear hs4 hs3
        go_wp2_with fail
        go_ret2
        rw [HRv.out]
        exact ⟨A', m, rfl, Hs4.out, hbel⟩

set_option maxHeartbeats 1600000 in
theorem bdec_bad (A : Option Addr) (n c : Nat) (count : Int) (w : World) (hc : count < 0 ∨ 16384 < count) :
    Calls Try.prog 24 #[.slice A n c, .int .i64 count] w fun e w' => e = .returned (.tuple #[.slice none 0 0, .int .i64 1]) ∧ w = w' := by
  rcases hc with h | h
  · go_enter Try.func24, Try.ntmps24
    go_wp2_with fail
    go_ret2
    exact ⟨rfl, rfl⟩
  · have h' : ¬ count < 0 := by omega
    go_enter Try.func24, Try.ntmps24
    go_wp2_with fail
    go_ret2
    exact ⟨rfl, rfl⟩
set_option maxHeartbeats 1600000 in
theorem bused_bad (A : Option Addr) (n c : Nat) (count : Int) (w : World) (hc : count < 0 ∨ 16384 < count) :
    Calls Try.prog 26 #[.slice A n c, .int .i64 count] w fun e w' => e = .returned (.tuple #[.int .i64 0, .int .i64 1]) ∧ w = w' := by
  rcases hc with h | h
  · go_enter Try.func26, Try.ntmps26
    go_wp2_with fail
    go_ret2
    exact ⟨rfl, rfl⟩
  · have h' : ¬ count < 0 := by omega
    go_enter Try.func26, Try.ntmps26
    go_wp2_with fail
    go_ret2
    exact ⟨rfl, rfl⟩

structure UsedSt (w : World) (all : List Run) (R : Nat × Nat) (count m k : Nat) (rs : List Run) (wr : World) : Prop where
  ex : ∃ pre, all = pre ++ rs ∧ (runsT pre).length = m ∧ (runsB pre).length = k ∧ usedS rs m k count = R
  bel : Below w.heap.size w wr

set_option maxHeartbeats 3200000 in
set_option maxRecDepth 4000 in
theorem bused_p (A : Option Addr) (n c : Nat) (all : List Run) (count : Nat) (w : World) (hs : Sl w A n c (nats .u8 (runsB all))) (hok : runsOk all) (hc : count ≤ 16384) :
    Calls Try.prog 26 #[.slice A n c, .int .i64 (count : Int)] w fun e w' => e = .returned (.tuple #[.int .i64 ((usedS all 0 0 count).1 : Int), .int .i64 ((usedS all 0 0 count).2 : Int)]) ∧ Below w.heap.size w w' := by
  have hle := hs.le
  have hmax := hs.max
  have hlen := hs.len
  rw [nats_length] at hlen
  obtain ⟨R, hR⟩ : ∃ R, R = usedS all 0 0 count := ⟨_, rfl⟩
  rw [← hR]
  have H0 : UsedSt w all R count 0 0 all w := ⟨⟨[], rfl, rfl, rfl, hR.symm⟩, Below.refl _ _⟩
  have Hlen := Lib.hid hlen
  have Hs := Lib.hid hs
  have Hok := Lib.hid hok
  unfold maxLen at hmax
  clear hlen hR hs hok
  go_enter Try.func26, Try.ntmps26
  go_wp2_with fail
  go_loopw [6, 7] (fun av tv wr => ∃ (m k : Nat) (rs : List Run), m ≤ 20000 ∧ k ≤ n ∧ av = .int .i64 (k : Int) ∧ tv = .int .i64 (m : Int) ∧ UsedSt w all R count m k rs wr) (fun _ tv _ => count - (intOf tv).toNat)
  case atStart => exact ⟨0, 0, all, by omega, by omega, rfl, rfl, H0⟩
  case round =>
    obtain ⟨m, k, rs, hm, hk, rfl, rfl, hst⟩ := hrel
    obtain ⟨⟨pre, hpre, hm', hk', hdec⟩, hbel⟩ := hst
    have hs2 := Hs.out.keep hbel
    have hn2 := Hlen.out
    rw [hpre, runsB_append, List.length_append, hk'] at hn2
    have hdrop : (runsB all).drop k = runsB rs := by rw [hpre, runsB_append, ← hk', List.drop_left]
    by_cases hlt : m < count
    · cases rs with
      | nil =>
        have hkn : k = n := by simpa [runsB] using hn2
        have hRv : R = (0, 3) := by
          rw [← hdec]; unfold usedS; rw [if_pos (by omega)]
        have HRv := Lib.hid hRv
        have Hend := Lib.hid (brun_end A n c wr hle (by unfold maxLen; omega))
        subst hkn
        clear hdrop hn2 hs2 hdec hpre hm' hk' hRv
        go_wp2_with fail
        refine Hend.out.mono ?_
        rintro e w1 ⟨rfl, rfl⟩
        go_wp2_with fail
        go_ret2
        rw [HRv.out]
        exact ⟨rfl, hbel⟩
      | cons r rs =>
        have hrok : r.ok := Hok.out r (by rw [hpre]; simp)
        have ht := Run.told_pos hrok
        have hrun := brun_at A n c (runsB all) k r (runsB rs) wr hs2 hrok (by rw [hdrop, runsB_cons])
        have hdec' : usedS rs (m + r.told.length) (k + r.bytes.length) count = R := by
          rw [← hdec]; conv => rhs; unfold usedS
          rw [if_pos (by omega)]
        have hkk : k + r.bytes.length ≤ n := by rw [runsB_cons, List.length_append] at hn2; omega
        have Hst : Hid (∀ w', Below w.heap.size w w' → UsedSt w all R count (m + r.told.length) (k + r.bytes.length) rs w') := fun w' hb =>
          ⟨⟨pre ++ [r], by rw [hpre]; simp, by rw [runsT_append, List.length_append, hm']; simp [runsT], by rw [runsB_append, List.length_append, hk']; simp [runsB], hdec'⟩, hb⟩
        obtain ⟨ht1, ht2⟩ := ht
        generalize r.told = tl at *
        generalize htn : tl.length = tn at *
        generalize r.bytes.length = bn at *
        have Hrun := Lib.hid hrun
        clear hdrop hn2 hs2 hdec hpre hm' hk' hdec' hrun hrok htn
        go_wp2_with fail
        refine Hrun.out.mono ?_
        rintro e w1 ⟨A1, c1, rfl, hs1, hb1⟩
        have H2 := Lib.hid (Hst.out _ (below_trans' hbel hb1))
        clear hs1
        go_wp2_with fail
        exact ⟨⟨m + tn, k + bn, rs, by omega, hkk, by first | rfl | simp, by first | rfl | simp, H2.out⟩, by simp only [intOf]; omega⟩
    · have hRv : R = (k, 0) := by
        rw [← hdec]
        cases rs with
        | nil => unfold usedS; rw [if_neg (by omega)]
        | cons r rs => unfold usedS; rw [if_neg (by omega)]
      have HRv := Lib.hid hRv
      clear hdrop hn2 hs2 hdec hpre hm' hk' hRv
      go_wp2_with fail
      go_ret2
      rw [HRv.out]
      exact ⟨rfl, hbel⟩
end Go.Proofs.Ytcmmgehghlaofaa
