/- NumsRows: the walk. -/
import Derived.Test.YtepkboilfgmkkaaNumsKnown
namespace Go.Proofs.Ytepkboilfgmkkaa
open Go.RowKit
open PackMath
set_option linter.unusedVariables false

def vars : List Nat → List Nat
  | [] => []
  | v :: l => varP v ++ vars l
theorem vars_append (l m : List Nat) : vars (l ++ m) = vars l ++ vars m := by
  induction l with
  | nil => rfl
  | cons v l ih => show varP v ++ vars (l ++ m) = _; rw [ih]; exact (List.append_assoc ..).symm
theorem vars_length (l : List Nat) : (vars l).length ≤ 10 * l.length := by
  induction l with
  | nil => exact Nat.le_refl _
  | cons v l ih =>
    show (varP v ++ vars l).length ≤ _
    have := (varP_length v).2
    rw [List.length_append, List.length_cons]
    omega
theorem vars_byte (l : List Nat) (h : ∀ v ∈ l, v < 18446744073709551616) : ∀ x ∈ vars l, x < 256 := by
  induction l with
  | nil => intro x hx; cases hx
  | cons v l ih =>
    intro x hx
    rcases List.mem_append.1 hx with hx | hx
    · exact varP_byte v (h v (by simp)) x hx
    · exact ih (fun v hv => h v (by simp [hv])) x hx
theorem vars_next (l : List Nat) (i : Nat) (hi : i < l.length) : vars (l.take (i + 1)) = vars (l.take i) ++ varP (l.getD i 0) := by
  rw [List.take_succ_eq_append_getElem hi, vars_append, getD_eq _ _ hi]
  congr 1
  show varP _ ++ [] = _
  rw [List.append_nil]
theorem vars_drop (l : List Nat) (i : Nat) : (vars l).drop (vars (l.take i)).length = vars (l.drop i) := by
  have : vars l = vars (l.take i) ++ vars (l.drop i) := by rw [← vars_append, List.take_append_drop]
  rw [this, List.drop_left]
theorem vars_read (l : List Nat) (i : Nat) (hi : i < l.length) (h : ∀ v ∈ l, v < 18446744073709551616) : varS (vars l) ((vars (l.take i)).length : Int) = (l.getD i 0, (varP (l.getD i 0)).length, 0) := by
  have hle : (vars (l.take i)).length ≤ (vars l).length := by
    have : vars l = vars (l.take i) ++ vars (l.drop i) := by rw [← vars_append, List.take_append_drop]
    rw [this, List.length_append]; omega
  unfold varS
  rw [if_neg (by omega), Int.toNat_natCast, vars_drop, List.drop_eq_getElem_cons hi, getD_eq _ _ hi]
  exact varP_read _ _ (h _ (List.getElem_mem _))
theorem vars_end (l : List Nat) : varS (vars l) ((vars l).length : Int) = (0, 0, 3) := by
  unfold varS
  rw [if_neg (by omega), Int.toNat_natCast, List.drop_length]
  rfl

set_option maxHeartbeats 3200000 in
theorem law_NumsRows (A : Option Addr) (n c : Nat) (l : List Nat) (w : World) (hl : Sl w A n c (nats .u64 l)) (hls : ∀ x ∈ l, x < 18446744073709551616) : Calls Try.prog 13 #[.slice A n c] w fun e w' => e = .returned (.bool true) ∧ Below w.heap.size w w' := by
  have hle := hl.le
  have hmax := hl.max
  unfold maxLen at hmax
  have hlen := hl.len
  rw [nats_length] at hlen
  have Hlen := Lib.hid hlen
  have Hls := Lib.hid hls
  clear hlen hls
  go_enter Try.func13, Try.ntmps13
  go_wp2_with fail
  refine (known1 _).mono ?_
  rintro e w1 ⟨rfl, hb1⟩
  by_cases hn : n ≤ 100
  · go_wp2_with fail
    go_loopw [3, 4] (fun bv iv wr => ∃ (i m : Nat) (A' : Option Addr), i ≤ n ∧ iv = .int .i64 (i : Int) ∧ bv = .slice A' m m ∧ Sl wr A' m m (nats .u8 (vars (l.take i))) ∧ Below w.heap.size w wr) (fun _ iv _ => n - (intOf iv).toNat)
    case atStart => exact ⟨0, 0, none, Nat.zero_le _, rfl, rfl, Sl.none_ _, hb1⟩
    case round =>
      obtain ⟨i, m, A', hi, rfl, rfl, hs, hb⟩ := hrel
      have hm := hs.len
      rw [nats_length] at hm
      have hml := vars_length (l.take i)
      rw [List.length_take, hm] at hml
      have Hm := Lib.hid hm
      by_cases hlt : i < n
      · obtain ⟨b, off, rfl, hbw, hcell⟩ := hl.at_ (by omega)
        have h1 := Hlen.out
        have hc : wr.cell? ⟨b, off + i, none⟩ = some (.int .u64 ((l.getD i 0 : Nat) : Int)) := by
          rw [hb.cell (p := ⟨b, off + i, none⟩) hbw, hcell i hlt, nats_getD _ _ _ (by omega)]
        have hx : l.getD i 0 < 18446744073709551616 := by
          rw [getD_eq _ _ (by omega)]; exact Hls.out _ (List.getElem_mem _)
        have Hn := Lib.hid (vars_next l i (by omega))
        generalize l.getD i 0 = x at *
        have Hput := Lib.hid (putvar_p A' m m (vars (l.take i)) x wr hs hx (by omega))
        have Hb := Lib.hid hb
        clear hcell h1 hm hs hl hb hb1
        go_wp2_with fail
        refine Hput.out.mono ?_
        rintro e w2 ⟨A2, m2, rfl, hs2, hb2⟩
        have Hs2 := Lib.hid hs2
        clear hs2
        go_wp2_with fail
        exact ⟨⟨i + 1, m2, A2, by omega, by go_num, rfl, by rw [Hn.out]; exact Hs2.out, below_trans' Hb.out hb2⟩, by simp only [intOf]; omega⟩
      · have hin : i = n := by omega
        have h1 := Hlen.out
        subst hin
        rw [List.take_of_length_le (by omega)] at hs Hm
        have Hs := Lib.hid hs
        have Hb := Lib.hid hb
        have Hl := Lib.hid hl
        have Hby := Lib.hid (vars_byte l Hls.out)
        have hsm := hs.max
        unfold maxLen at hsm
        clear h1 hm hs hb hb1 hl
        go_wp2_with fail
        go_loopw [5, 6] (fun av iv wq => ∃ (j a : Nat), j ≤ i ∧ iv = .int .i64 (j : Int) ∧ av = .int .i64 (a : Int) ∧ (vars (l.take j)).length = a ∧ wq = wr) (fun _ iv _ => i - (intOf iv).toNat)
        case atStart => exact ⟨0, 0, Nat.zero_le _, rfl, rfl, rfl, by first | rfl | trivial⟩
        case round =>
          obtain ⟨j, a, hj, rfl, rfl, ha, hwq⟩ := hrel
          have ha2 := vars_length (l.take j)
          rw [List.length_take, ha] at ha2
          have Ha := Lib.hid ha
          clear ha
          by_cases hjl : j < i
          · obtain ⟨b, off, rfl, hbw, hcell⟩ := Hl.out.at_ (by omega)
            have h1 := Hlen.out
            have hc := (Hb.out.cell (p := ⟨b, off + j, none⟩) hbw).trans ((hcell j hjl).trans (congrArg some (nats_getD .u64 l j (by omega))))
            have hx : l.getD j 0 < 18446744073709551616 := by
              rw [getD_eq _ _ (by omega)]; exact Hls.out _ (List.getElem_mem _)
            have hv := varp A' m m (vars l) (a : Int) _ Hs.out Hby.out (by omega) (by omega)
            have hrd := vars_read l j (by omega) Hls.out
            rw [Ha.out] at hrd
            rw [hrd] at hv
            have hnx := vars_next l j (by omega)
            have hpl := varP_length (l.getD j 0)
            have hnl : (vars (l.take (j + 1))).length = a + (varP (l.getD j 0)).length := by rw [hnx, List.length_append, Ha.out]
            generalize (varP (l.getD j 0)).length = k at *
            generalize l.getD j 0 = x at *
            have Hv := Lib.hid hv
            have Hnl := Lib.hid hnl
            obtain ⟨hp1, hp2⟩ := hpl
            clear hcell h1 hv hrd hnx hnl
            go_wp2_with fail
            refine Hv.out.mono ?_
            rintro e w2 ⟨rfl, rfl⟩
            unfold varV
            go_wp2_with fail
            exact ⟨⟨j + 1, a + k, by omega, by go_num, by first | rfl | simp, Hnl.out, by first | rfl | trivial⟩, by simp only [intOf]; omega⟩
          · have hjn : j = i := by omega
            have h1 := Hlen.out
            subst hjn
            have h2 := Ha.out
            rw [List.take_of_length_le (by omega), Hm.out] at h2
            subst h2
            have hv := varp A' m m (vars l) (m : Int) _ Hs.out Hby.out (by omega) (by omega)
            have h3 := vars_end l
            rw [Hm.out] at h3
            rw [h3] at hv
            have Hv := Lib.hid hv
            clear h1 hv h3
            go_wp2_with fail
            refine Hv.out.mono ?_
            rintro e w2 ⟨rfl, rfl⟩
            unfold varV
            go_wp2_with fail
            go_ret
            exact ⟨by first | rfl | simp, Hb.out⟩
  · go_wp2_with fail
    go_ret
    exact ⟨rfl, hb1⟩
end Go.Proofs.Ytepkboilfgmkkaa
