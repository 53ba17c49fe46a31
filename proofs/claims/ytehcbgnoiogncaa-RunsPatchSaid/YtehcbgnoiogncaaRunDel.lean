/- rle2's Delta. -/
import Derived.Test.YtehcbgnoiogncaaRunDelM
import Derived.Deep.DeepCutAuto
namespace Go.Proofs.Ytehcbgnoiogncaa
open Go.RowKit
open PackMath
set_option linter.unusedVariables false

theorem dWid_le (c : Nat) : dWid c ≤ 64 := by
  have := widN_le c
  unfold dWid
  split <;> omega

theorem walkD_cons (sg : Bool) (v d : Int) (l : List (Option Int)) : walkD sg v (some d :: l) = match putS sg v d with | none => none | some s => (walkD sg s l).map (v :: ·) := by
  rw [walkD]
  cases putS sg v d <;> rfl
theorem delO_zero (sg : Bool) (v step : Int) (xs : List Nat) (k : Nat) : delO sg 0 v step xs k = delO sg 0 v step [] k := by
  unfold delO dL
  congr 1

set_option maxHeartbeats 6400000 in
set_option maxRecDepth 4000 in
theorem rddelta {w : World} {g : Nat} {A : Option Addr} {n c : Nat} {bs : List Nat} {p : Nat} {sg : Bool} (h : Rd w g A n c bs p sg) :
    Calls Try.prog 27 #[.pointer (some ⟨g, 0, none⟩)] w fun e w' => KdOut w g A n c bs p sg (deltaS bs p sg) e w' := by
  have hn := h.len
  by_cases h2 : n < p + 2
  · rw [show deltaS bs p sg = badR 3 from by unfold deltaS; rw [if_pos (by omega)]]
    have hN := rdhead_no h h2
    have HN := Lib.hid hN
    clear hN h hn h2
    go_enter Try.func27, Try.ntmps27
    go_wp2_with fail
    refine HN.out.mono ?_
    rintro e w1 ⟨x, y, p', rfl, t1⟩
    have T1 := Lib.hid t1
    clear t1
    go_wp2_with fail
    go_ret2
    exact kd_bad 3 (by decide) T1.out
  · have hp2 : ¬ bs.length < p + 2 := by omega
    have hH := rdhead_ok h (by omega)
    have hk1 := hdCount_le h p
    obtain ⟨⟨a1, a2, a3⟩, ha⟩ : ∃ a, varR (bs.drop (p + 2)) 0 0 = a := ⟨_, rfl⟩
    have ha64 := (varR_bd (bs.drop (p + 2)) 0 0 (by decide) (by omega)).1
    have hva := fun w' (h' : Rd w' g A n c bs (p + 2) sg) => rdvar h'
    simp only [ha] at hva ha64
    obtain ⟨⟨b1, b2, b3⟩, hb⟩ : ∃ b, varR (bs.drop (p + 2 + a2)) 0 0 = b := ⟨_, rfl⟩
    have hb64 := (varR_bd (bs.drop (p + 2 + a2)) 0 0 (by decide) (by omega)).1
    have hvb := fun w' (h' : Rd w' g A n c bs (p + 2 + a2) sg) => rdvar h'
    simp only [hb] at hvb hb64
    have eA : a3 ≠ 0 → deltaS bs p sg = badR a3 := fun h3 => deltaS_a bs p sg hp2 a1 a2 a3 ha h3
    have eB : a3 = 0 → b3 ≠ 0 → deltaS bs p sg = badR b3 := fun h0 h3 => deltaS_b bs p sg hp2 a1 a2 b1 b2 b3 (by rw [ha, h0]) hb h3
    have eV : a3 = 0 → b3 = 0 → numS sg a1 = none → deltaS bs p sg = badR 2 := fun h0 h3 hv => deltaS_v bs p sg hp2 a1 a2 b1 b2 (by rw [ha, h0]) (by rw [hb, h3]) hv
    have eO : a3 = 0 → b3 = 0 → ∀ v, numS sg a1 = some v → _ := fun h0 h3 v hv => deltaS_eq bs p sg hp2 a1 a2 b1 b2 v (by rw [ha, h0]) (by rw [hb, h3]) hv
    generalize deltaS bs p sg = R at *
    have hcast := widN_cast (hdCode bs p)
    have hdw64 := dWid_le (hdCode bs p)
    have hdwD : hdCode bs p ≠ 0 → dWid (hdCode bs p) = widN (hdCode bs p) := fun h => by unfold dWid; rw [if_neg h]
    have hdw0 : hdCode bs p = 0 → dWid (hdCode bs p) = 0 := fun h => by unfold dWid; rw [if_pos h]
    generalize hdCount bs p = k at *
    generalize hdCode bs p = co at *
    generalize dWid co = dw at *
    have hW := fun w' => width_p (co : Int) w'
    rw [hcast] at hW
    have HH := Lib.hid hH
    have HW := Lib.hid hW
    have HdwD := Lib.hid hdwD
    have Hdw0 := Lib.hid hdw0
    have Hva := Lib.hid hva
    have Hvb := Lib.hid hvb
    have EA := Lib.hid eA
    have EB := Lib.hid eB
    have EV := Lib.hid eV
    have EO := Lib.hid eO
    have Hn := Lib.hid hn
    have HZ := Lib.hid (fun W => zag_p (b1 : Int) W (by omega) (by omega))
    have hzI := zag_inI b1 hb64
    clear hH hW hcast h hn hp2 hdwD hdw0 hva hvb eA eB eV eO ha hb
    obtain ⟨hk1, hk512⟩ := hk1
    go_enter Try.func27, Try.ntmps27
    go_wp2_with fail
    refine HH.out.mono ?_
    rintro e w1 ⟨rfl, t1⟩
    have T1 := Lib.hid t1
    clear t1
    go_upto_if 27 with (fail)
    go_cut [7] (fun fv wx => fv = .int .i64 (dw : Int) ∧ Hid (RdTo w g A n c bs (p + 2) sg wx))
    case first =>
      by_cases hc0 : co = 0
      · have e0 := Hdw0.out hc0
        subst e0 hc0
        go_wp2_with fail
        go_meet
        case rel => exact ⟨rfl, T1⟩
      · have e0 := HdwD.out hc0
        subst e0
        go_wp2_with fail
        refine (HW.out w1).mono ?_
        rintro e w2 ⟨rfl, b2⟩
        have T2 := Lib.hid (T1.out.below b2)
        clear b2
        go_wp2_with fail
        go_meet
        case rel => exact ⟨rfl, T2⟩
    case rest =>
      obtain ⟨rfl, T2⟩ := hcut
      go_wp2_with fail
      refine (Hva.out wc T2.out.1).mono ?_
      rintro e w3 ⟨rfl, t3⟩
      have T3 := Lib.hid (T2.out.trans t3)
      clear t3
      by_cases ha3 : a3 = 0
      · subst ha3
        go_wp2_with fail
        refine (Hvb.out w3 T3.out.1).mono ?_
        rintro e w4 ⟨rfl, t4⟩
        have T4 := Lib.hid (T3.out.trans t4)
        clear t4
        by_cases hb3 : b3 = 0
        · subst hb3
          have hno := fun w' (h' : Rd w' g A n c bs (p + 2 + a2 + b2) sg) (hv : numS sg a1 = none) => rdnum_no h' a1 ha64 hv
          have hyes := fun w' (h' : Rd w' g A n c bs (p + 2 + a2 + b2) sg) v (hv : numS sg a1 = some v) => rdnum_ok h' a1 ha64 v hv
          have Hno := Lib.hid hno
          have Hyes := Lib.hid hyes
          clear hno hyes
          go_wp2_with fail
          refine (HZ.out _).mono ?_
          rintro e w5 ⟨rfl, rfl⟩
          generalize hst : zagS (b1 : Int) = step at *
          go_wp2_with fail
          cases hv : numS sg a1 with
          | none =>
            have e := EV.out (by trivial) (by trivial) hv
            subst e
            have HN := Lib.hid (Hno.out w4 T4.out.1 hv)
            clear hv
            refine HN.out.mono ?_
            rintro e w6 ⟨⟨z, rfl⟩, rfl⟩
            go_wp2_with fail
            go_ret2
            exact kd_bad 2 (by decide) T4.out
          | some v0 =>
            have e := EO.out (by trivial) (by trivial) v0 hv
            rw [Hn.out] at e
            have HY := Lib.hid (Hyes.out w4 T4.out.1 v0 hv)
            have hv0I := numS_in sg a1 v0 ha64 hv
            have E := Lib.hid e
            clear hv e
            refine HY.out.mono ?_
            rintro e w6 ⟨rfl, rfl⟩
            go_upto_if 57 with (fail)
            go_cut [13] (fun lv wx => ∃ B m cB xs q j, lv = .slice B m cB ∧ Hid (Sl wx B m cB (nats .u64 xs)) ∧ Hid (RdTo w g A n c bs q sg wx) ∧ Hid (R = okR (delO sg dw v0 step xs k) j) ∧ Hid (q = p + j) ∧ Hid (0 < dw → m = k - 2))
            case first =>
              by_cases hd0 : dw = 0
              · subst hd0
                have e := E.out
                rw [if_neg (by omega), if_neg (by omega), delO_zero] at e
                have E2 := Lib.hid e
                clear e E
                go_wp2_with fail
                go_meet
                case rel => exact ⟨none, 0, 0, [], _, _, rfl, Lib.hid (Sl.none_ _), T4, E2, Lib.hid (by omega), Lib.hid (fun h => absurd h (by omega))⟩
              · have hdp : 0 < dw := by omega
                by_cases hsh : n < p + 2 + a2 + b2 + nbytes ((k - 2) * dw)
                · have e := E.out
                  rw [if_pos ⟨hdp, hsh⟩] at e
                  have HP := Lib.hid (rdpk_no T4.out.1 (k - 2) dw (by omega) hdw64 hsh)
                  clear hsh E
                  subst e
                  go_wp2_with fail
                  rw [show (max ((k : Int) - 2) 0) = ((k - 2 : Nat) : Int) from by omega]
                  refine HP.out.mono ?_
                  rintro e w7 ⟨A7, c7, rfl, s7, t7⟩
                  have T7 := Lib.hid (T4.out.trans t7)
                  clear s7 t7
                  go_wp2_with fail
                  go_ret2
                  exact kd_bad 3 (by decide) T7.out
                · have e := E.out
                  rw [if_neg (fun h => hsh h.2), if_pos hdp] at e
                  have HP := Lib.hid (rdpk_ok T4.out.1 (k - 2) dw (by omega) hdw64 (by omega))
                  have E2 := Lib.hid e
                  clear hsh E e
                  go_wp2_with fail
                  rw [show (max ((k : Int) - 2) 0) = ((k - 2 : Nat) : Int) from by omega]
                  refine HP.out.mono ?_
                  rintro e w7 ⟨A7, c7, rfl, s7, t7⟩
                  have T7 := Lib.hid (T4.out.trans t7)
                  have S7 := Lib.hid s7
                  clear s7 t7
                  go_wp2_with fail
                  go_meet
                  case rel => exact ⟨A7, _, c7, _, _, _, rfl, S7, T7, E2, Lib.hid (by omega), Lib.hid (fun _ => rfl)⟩
            case rest =>
              obtain ⟨B, m, cB, xs, q, j, rfl, SB, TP, ER, Hq, Hm⟩ := hcut
              clear E
              obtain ⟨i0, hi, hz0, hz1, hz2⟩ := info_parts Try.info2
              obtain ⟨wP, hwP⟩ : ∃ x, x = wc := ⟨_, rfl⟩
              subst hwP
              have hown0 : (wP.alloc (.cells #[.int .i64 v0] 2)).ownsRow wP.heap.size 2 1 (.slice (some ⟨wP.heap.size, 0, none⟩) 1 1) 1 (ints .i64 ([] ++ [v0])) := World.ownsRow_lit wP #[.int .i64 v0] 1 (Nat.le_refl _) (by decide) rfl
              have Hown0 := Lib.hid hown0
              clear hown0
              go_wp2_with fail
              go_loopw [11, 14, 15] (fun vv ov iv wr => ∃ (i : Nat) (v : Int) (acc : List Int) (A' : Option Addr) (c' : Nat), 1 ≤ i ∧ i ≤ k ∧ vv = .int .i64 v ∧ ov = .slice A' i c' ∧ iv = .int .i64 (i : Int) ∧ InI v ∧ Hid (walkD sg v0 (dL dw step xs k) = (walkD sg v ((dL dw step xs k).drop (i - 1))).map (acc ++ ·)) ∧ Hid (acc.length + 1 = i) ∧ Hid (wr.ownsRow wP.heap.size 2 1 (.slice A' i c') i (ints .i64 (acc ++ [v]))) ∧ Hid (Below wP.heap.size wP wr)) (fun _ _ iv _ => k - (intOf iv).toNat)
              case atStart => exact ⟨1, v0, [], _, 1, Nat.le_refl _, hk1, rfl, rfl, rfl, hv0I, Lib.hid (by simp), Lib.hid rfl, Hown0, Lib.hid ((Below.refl _ _).alloc (Nat.le_refl _) _)⟩
              case round =>
                obtain ⟨i, v, acc, A', c', hi1, hik, rfl, rfl, rfl, hvI, Hw, Hl, Ho, Hb⟩ := hrel
                by_cases hlt : i < k
                · have TR := Lib.hid (TP.out.below Hb.out)
                  by_cases hA : 0 < dw ∧ 1 < i
                  · obtain ⟨hdp, hi2⟩ := hA
                    have hm := Hm.out hdp
                    obtain ⟨b3, o3, rfl, hb3', hcell⟩ := SB.out.at_ (by omega)
                    obtain ⟨u, hu⟩ : ∃ u, u = xs.getD (i - 2) 0 := ⟨_, rfl⟩
                    have hxl : xs.length = m := by have := SB.out.len; rwa [nats_length] at this
                    have hcu : wr.cell? ⟨b3, o3 + (i - 2), none⟩ = some (.int .u64 (u : Int)) := by
                      rw [Hb.out.cell (p := ⟨b3, o3 + (i - 2), none⟩) hb3', hcell _ (by omega), nats_getD _ _ _ (by omega), hu]
                    have hdat0 : dAt dw step xs (i - 1) = stepO (decide (step < 0)) u := by
                      unfold dAt
                      rw [if_pos ⟨hdp, by omega⟩, hu, show i - 1 - 1 = i - 2 from by omega]
                    have Hdat0 := Lib.hid hdat0
                    have him : i - 2 < m := by omega
                    have hdpi : (0 : Int) < (dw : Int) := by omega
                    have hi2i : (1 : Int) < (i : Int) := by omega
                    clear hcell hu hxl hdat0 hm
                    by_cases hbig : 9223372036854775807 < u
                    · have Hend := Lib.hid (show delO sg dw v0 step xs k = none from by
                        unfold delO; rw [Hw.out, dL_drop _ _ _ _ _ hi1 hlt, Hdat0.out]; unfold stepO; rw [if_pos hbig]; rfl)
                      go_wp2_with fail
                      go_ret2
                      rw [ER.out, Hend.out]
                      exact kd_bad 2 (by decide) TR.out
                    · by_cases hneg : step < 0
                      · have Hdat := Lib.hid (show dAt dw step xs (i - 1) = some (-(u : Int)) from by rw [Hdat0.out]; unfold stepO; rw [if_neg hbig, if_pos (decide_eq_true hneg)])
                        have hdI : InI (-(u : Int)) := by unfold InI; omega
                        have hput := fun s hs => rdput_ok TR.out.1 v (-(u : Int)) hvI hdI s hs
                        have hputn := fun hs => rdput_no TR.out.1 v (-(u : Int)) hvI hdI hs
                        cases hps : putS sg v (-(u : Int)) with
                        | none =>
                          have Hno := Lib.hid (hputn hps)
                          have Hend := Lib.hid (show delO sg dw v0 step xs k = none from by
                            unfold delO; rw [Hw.out, dL_drop _ _ _ _ _ hi1 hlt, Hdat.out, walkD_cons, hps]; rfl)
                          clear hput hputn hps
                          go_wp2_with fail
                          refine Hno.out.mono ?_
                          rintro e w5 ⟨⟨z, rfl⟩, rfl⟩
                          go_wp2_with fail
                          go_ret2
                          rw [ER.out, Hend.out]
                          exact kd_bad 2 (by decide) TR.out
                        | some s =>
                          have Hyes := Lib.hid (hput s hps)
                          have hsI := putS_in hps
                          have Hnext := Lib.hid (show walkD sg v0 (dL dw step xs k) = (walkD sg s ((dL dw step xs k).drop (i + 1 - 1))).map ((acc ++ [v]) ++ ·) from by
                            rw [Hw.out, dL_drop _ _ _ _ _ hi1 hlt, Hdat.out]
                            rw [walkD_cons, hps]
                            dsimp only
                            rw [Option.map_map]
                            congr 1
                            funext l
                            simp)
                          clear hput hputn hps
                          go_wp2_with fail
                          refine Hyes.out.mono ?_
                          rintro e w5 ⟨rfl, rfl⟩
                          have hsz := Hb.out.size
                          go_wp2_with (at_builtin; refine wpList_append_sl rfl _ _ 25 rfl wP.heap.size 2 i0 (.int .i64 0) 8 Try.underlying25 hi hz0 hz1 hz2 rfl _ i _ rfl (Ho.out.alloc _) (some ⟨wr.heap.size, 0, none⟩) 1 1 [.int .i64 s] rfl (Sl.one_new wr (.int .i64 s) _ rfl) ?cn1 ?cn2 ?cn3 ?_)
                          case cn1 => unfold maxLen; omega
                          case cn2 => omega
                          case cn3 => simp; omega
                          intro v2 w6 ho2 hb2 _ _
                          obtain ⟨A2, c2, rfl, s2⟩ := Sl.of_own ho2 (fun u hu => (List.mem_append.1 hu).elim (ints_one _ _ u) (fun h => by simp at h; subst h; rfl))
                          have H2 : Hid (w6.ownsRow wP.heap.size 2 1 (.slice A2 (i + 1) c2) (i + 1) (ints .i64 (acc ++ [v] ++ [s]))) := by
                            have := ho2
                            unfold ints at this ⊢
                            rw [List.map_append]; exact this
                          have Hb3 := Lib.hid ((Hb.out.alloc hsz _).trans hb2)
                          clear ho2 s2 hb2
                          go_wp2_with fail
                          exact ⟨⟨i + 1, s, acc ++ [v], A2, c2, by omega, by omega, rfl, by first | rfl | simp, by first | rfl | (go_num), hsI, Hnext, Lib.hid (by have := Hl.out; rw [List.length_append]; simp; omega), H2, Hb3⟩, by simp only [intOf]; omega⟩
                      · have Hdat := Lib.hid (show dAt dw step xs (i - 1) = some (u : Int) from by rw [Hdat0.out]; unfold stepO; rw [if_neg hbig, if_neg (by simpa using hneg)])
                        have hdI : InI (u : Int) := by unfold InI; omega
                        have hput := fun s hs => rdput_ok TR.out.1 v (u : Int) hvI hdI s hs
                        have hputn := fun hs => rdput_no TR.out.1 v (u : Int) hvI hdI hs
                        cases hps : putS sg v (u : Int) with
                        | none =>
                          have Hno := Lib.hid (hputn hps)
                          have Hend := Lib.hid (show delO sg dw v0 step xs k = none from by
                            unfold delO; rw [Hw.out, dL_drop _ _ _ _ _ hi1 hlt, Hdat.out, walkD_cons, hps]; rfl)
                          clear hput hputn hps
                          go_wp2_with fail
                          refine Hno.out.mono ?_
                          rintro e w5 ⟨⟨z, rfl⟩, rfl⟩
                          go_wp2_with fail
                          go_ret2
                          rw [ER.out, Hend.out]
                          exact kd_bad 2 (by decide) TR.out
                        | some s =>
                          have Hyes := Lib.hid (hput s hps)
                          have hsI := putS_in hps
                          have Hnext := Lib.hid (show walkD sg v0 (dL dw step xs k) = (walkD sg s ((dL dw step xs k).drop (i + 1 - 1))).map ((acc ++ [v]) ++ ·) from by
                            rw [Hw.out, dL_drop _ _ _ _ _ hi1 hlt, Hdat.out]
                            rw [walkD_cons, hps]
                            dsimp only
                            rw [Option.map_map]
                            congr 1
                            funext l
                            simp)
                          clear hput hputn hps
                          go_wp2_with fail
                          refine Hyes.out.mono ?_
                          rintro e w5 ⟨rfl, rfl⟩
                          have hsz := Hb.out.size
                          go_wp2_with (at_builtin; refine wpList_append_sl rfl _ _ 25 rfl wP.heap.size 2 i0 (.int .i64 0) 8 Try.underlying25 hi hz0 hz1 hz2 rfl _ i _ rfl (Ho.out.alloc _) (some ⟨wr.heap.size, 0, none⟩) 1 1 [.int .i64 s] rfl (Sl.one_new wr (.int .i64 s) _ rfl) ?cp1 ?cp2 ?cp3 ?_)
                          case cp1 => unfold maxLen; omega
                          case cp2 => omega
                          case cp3 => simp; omega
                          intro v2 w6 ho2 hb2 _ _
                          obtain ⟨A2, c2, rfl, s2⟩ := Sl.of_own ho2 (fun u hu => (List.mem_append.1 hu).elim (ints_one _ _ u) (fun h => by simp at h; subst h; rfl))
                          have H2 : Hid (w6.ownsRow wP.heap.size 2 1 (.slice A2 (i + 1) c2) (i + 1) (ints .i64 (acc ++ [v] ++ [s]))) := by
                            have := ho2
                            unfold ints at this ⊢
                            rw [List.map_append]; exact this
                          have Hb3 := Lib.hid ((Hb.out.alloc hsz _).trans hb2)
                          clear ho2 s2 hb2
                          go_wp2_with fail
                          exact ⟨⟨i + 1, s, acc ++ [v], A2, c2, by omega, by omega, rfl, by first | rfl | simp, by first | rfl | (go_num), hsI, Hnext, Lib.hid (by have := Hl.out; rw [List.length_append]; simp; omega), H2, Hb3⟩, by simp only [intOf]; omega⟩
                  · have Hdat := Lib.hid (show dAt dw step xs (i - 1) = some step from by unfold dAt; rw [if_neg (fun h => hA ⟨h.1, by omega⟩)])
                    by_cases hd0 : dw = 0
                    · have hq1 : decide ((0 : Int) < (dw : Int)) = false := by rw [hd0]; rfl
                      have hq2 : ¬ (0 : Int) < (dw : Int) := by omega
                      clear hA hd0
                      have hput := fun s hs => rdput_ok TR.out.1 v step hvI hzI s hs
                      have hputn := fun hs => rdput_no TR.out.1 v step hvI hzI hs
                      cases hps : putS sg v step with
                      | none =>
                        have Hno := Lib.hid (hputn hps)
                        have Hend := Lib.hid (show delO sg dw v0 step xs k = none from by
                          unfold delO; rw [Hw.out, dL_drop _ _ _ _ _ hi1 hlt, Hdat.out, walkD_cons, hps]; rfl)
                        clear hput hputn hps
                        go_wp2_with fail
                        refine Hno.out.mono ?_
                        rintro e w5 ⟨⟨z, rfl⟩, rfl⟩
                        go_wp2_with fail
                        go_ret2
                        rw [ER.out, Hend.out]
                        exact kd_bad 2 (by decide) TR.out
                      | some s =>
                        have Hyes := Lib.hid (hput s hps)
                        have hsI := putS_in hps
                        have Hnext := Lib.hid (show walkD sg v0 (dL dw step xs k) = (walkD sg s ((dL dw step xs k).drop (i + 1 - 1))).map ((acc ++ [v]) ++ ·) from by
                          rw [Hw.out, dL_drop _ _ _ _ _ hi1 hlt, Hdat.out]
                          rw [walkD_cons, hps]
                          dsimp only
                          rw [Option.map_map]
                          congr 1
                          funext l
                          simp)
                        clear hput hputn hps
                        go_wp2_with fail
                        refine Hyes.out.mono ?_
                        rintro e w5 ⟨rfl, rfl⟩
                        have hsz := Hb.out.size
                        go_wp2_with (at_builtin; refine wpList_append_sl rfl _ _ 25 rfl wP.heap.size 2 i0 (.int .i64 0) 8 Try.underlying25 hi hz0 hz1 hz2 rfl _ i _ rfl (Ho.out.alloc _) (some ⟨wr.heap.size, 0, none⟩) 1 1 [.int .i64 s] rfl (Sl.one_new wr (.int .i64 s) _ rfl) ?cs1 ?cs2 ?cs3 ?_)
                        case cs1 => unfold maxLen; omega
                        case cs2 => omega
                        case cs3 => simp; omega
                        intro v2 w6 ho2 hb2 _ _
                        obtain ⟨A2, c2, rfl, s2⟩ := Sl.of_own ho2 (fun u hu => (List.mem_append.1 hu).elim (ints_one _ _ u) (fun h => by simp at h; subst h; rfl))
                        have H2 : Hid (w6.ownsRow wP.heap.size 2 1 (.slice A2 (i + 1) c2) (i + 1) (ints .i64 (acc ++ [v] ++ [s]))) := by
                          have := ho2
                          unfold ints at this ⊢
                          rw [List.map_append]; exact this
                        have Hb3 := Lib.hid ((Hb.out.alloc hsz _).trans hb2)
                        clear ho2 s2 hb2
                        go_wp2_with fail
                        exact ⟨⟨i + 1, s, acc ++ [v], A2, c2, by omega, by omega, rfl, by first | rfl | simp, by first | rfl | (go_num), hsI, Hnext, Lib.hid (by have := Hl.out; rw [List.length_append]; simp; omega), H2, Hb3⟩, by simp only [intOf]; omega⟩
                    · have hdpi : (0 : Int) < (dw : Int) := by omega
                      have hq1 : decide ((1 : Int) < (i : Int)) = false := by simp; omega
                      have hq3 : ¬ (1 : Int) < (i : Int) := by omega
                      clear hA hd0
                      have hput := fun s hs => rdput_ok TR.out.1 v step hvI hzI s hs
                      have hputn := fun hs => rdput_no TR.out.1 v step hvI hzI hs
                      cases hps : putS sg v step with
                      | none =>
                        have Hno := Lib.hid (hputn hps)
                        have Hend := Lib.hid (show delO sg dw v0 step xs k = none from by
                          unfold delO; rw [Hw.out, dL_drop _ _ _ _ _ hi1 hlt, Hdat.out, walkD_cons, hps]; rfl)
                        clear hput hputn hps
                        go_wp2_with fail
                        refine Hno.out.mono ?_
                        rintro e w5 ⟨⟨z, rfl⟩, rfl⟩
                        go_wp2_with fail
                        go_ret2
                        rw [ER.out, Hend.out]
                        exact kd_bad 2 (by decide) TR.out
                      | some s =>
                        have Hyes := Lib.hid (hput s hps)
                        have hsI := putS_in hps
                        have Hnext := Lib.hid (show walkD sg v0 (dL dw step xs k) = (walkD sg s ((dL dw step xs k).drop (i + 1 - 1))).map ((acc ++ [v]) ++ ·) from by
                          rw [Hw.out, dL_drop _ _ _ _ _ hi1 hlt, Hdat.out]
                          rw [walkD_cons, hps]
                          dsimp only
                          rw [Option.map_map]
                          congr 1
                          funext l
                          simp)
                        clear hput hputn hps
                        go_wp2_with fail
                        refine Hyes.out.mono ?_
                        rintro e w5 ⟨rfl, rfl⟩
                        have hsz := Hb.out.size
                        go_wp2_with (at_builtin; refine wpList_append_sl rfl _ _ 25 rfl wP.heap.size 2 i0 (.int .i64 0) 8 Try.underlying25 hi hz0 hz1 hz2 rfl _ i _ rfl (Ho.out.alloc _) (some ⟨wr.heap.size, 0, none⟩) 1 1 [.int .i64 s] rfl (Sl.one_new wr (.int .i64 s) _ rfl) ?ct1 ?ct2 ?ct3 ?_)
                        case ct1 => unfold maxLen; omega
                        case ct2 => omega
                        case ct3 => simp; omega
                        intro v2 w6 ho2 hb2 _ _
                        obtain ⟨A2, c2, rfl, s2⟩ := Sl.of_own ho2 (fun u hu => (List.mem_append.1 hu).elim (ints_one _ _ u) (fun h => by simp at h; subst h; rfl))
                        have H2 : Hid (w6.ownsRow wP.heap.size 2 1 (.slice A2 (i + 1) c2) (i + 1) (ints .i64 (acc ++ [v] ++ [s]))) := by
                          have := ho2
                          unfold ints at this ⊢
                          rw [List.map_append]; exact this
                        have Hb3 := Lib.hid ((Hb.out.alloc hsz _).trans hb2)
                        clear ho2 s2 hb2
                        go_wp2_with fail
                        exact ⟨⟨i + 1, s, acc ++ [v], A2, c2, by omega, by omega, rfl, by first | rfl | simp, by first | rfl | (go_num), hsI, Hnext, Lib.hid (by have := Hl.out; rw [List.length_append]; simp; omega), H2, Hb3⟩, by simp only [intOf]; omega⟩
                · have hie : i = k := by omega
                  subst hie
                  obtain ⟨A9, c9, hv9, s9⟩ := Sl.of_own Ho.out (ints_one _ _)
                  injection hv9 with e1 e2 e3
                  subst e1 e3
                  have S9 := Lib.hid s9
                  clear s9
                  have Hend := Lib.hid (show delO sg dw v0 step xs i = some (acc ++ [v]) from by
                    unfold delO
                    rw [Hw.out, List.drop_eq_nil_of_le (by simp [dL])]
                    rfl)
                  go_wp2_with fail
                  go_ret2
                  rw [ER.out, Hend.out]
                  exact kd_ok S9.out (TP.out.below Hb.out) Hq.out
        · have e := EB.out (by trivial) hb3
          subst e
          go_wp2_with fail
          go_ret2
          exact kd_bad b3 hb3 T4.out
      · have e := EA.out ha3
        subst e
        go_wp2_with fail
        go_ret2
        exact kd_bad a3 ha3 T3.out
end Go.Proofs.Ytehcbgnoiogncaa
