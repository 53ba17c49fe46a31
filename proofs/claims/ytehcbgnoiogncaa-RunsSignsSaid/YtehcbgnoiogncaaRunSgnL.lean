/- RunsSigns: the walk. -/
import Derived.Test.YtehcbgnoiogncaaRunREnc
namespace Go.Proofs.Ytehcbgnoiogncaa
open Go.RowKit
open PackMath
set_option linter.unusedVariables false

set_option maxHeartbeats 3200000 in
set_option maxRecDepth 4000 in
theorem law_RunsSigns (A : Option Addr) (n c : Nat) (l : List Int) (w : World) (hl : Sl w A n c (ints .i64 l)) (hI : ∀ v ∈ l, -9223372036854775808 ≤ v ∧ v ≤ 9223372036854775807) :
    Calls Try.prog 10 #[.slice A n c] w fun e w' => e = .returned (.bool true) ∧ Below w.heap.size w w' := by
  have hn63 : (n : Int) ≤ 9223372036854775807 := by
    have h1 := hl.le
    have h2 := hl.max
    unfold maxLen at h2
    omega
  have hlen := hl.len
  rw [ints_length] at hlen
  by_cases hin : 600 < n
  · have q : decide ((600 : Int) < (n : Int)) = true := decide_eq_true (by omega)
    clear hl hlen
    go_enter Try.func10, Try.ntmps10
    go_wp2_with fail
    refine (known9 _).mono ?_
    rintro e w1 ⟨rfl, b1⟩
    have B1 := Lib.hid b1
    clear b1
    go_wp2_with fail
    all_goals (go_ret; exact ⟨rfl, B1.out⟩)
  · have q : decide ((600 : Int) < (n : Int)) = false := decide_eq_false (by omega)
    have Hl := Lib.hid hl
    have HI := Lib.hid hI
    have Hlen := Lib.hid hlen
    have HB8 := Lib.hid (encS_byte false l)
    have HL := Lib.hid (show (encS false l).length ≤ 1000000 from by rw [encS_len, hlen]; omega)
    clear hl hI hlen
    go_enter Try.func10, Try.ntmps10
    go_wp2_with fail
    refine (known9 _).mono ?_
    rintro e w1 ⟨rfl, b1⟩
    have B1 := Lib.hid b1
    have HlW := Lib.hid (Hl.out.keep b1)
    clear b1
    go_wp2_with fail
    go_loopw [3] (fun iv wr => ∃ i : Nat, i ≤ n ∧ iv = .int .i64 (i : Int) ∧ Hid (∀ j, j < i → 0 ≤ l.getD j 0) ∧ wr = w1) (fun iv _ => n - (intOf iv).toNat)
    case atStart => exact ⟨0, Nat.zero_le _, rfl, Lib.hid (fun j h => by omega), rfl⟩
    case round =>
      obtain ⟨i, hi, rfl, Hp, rfl⟩ := hrel
      by_cases hlt : i < n
      · obtain ⟨b, off, rfl, hbw, hcell⟩ := HlW.out.at_ (by omega)
        have hcl := hcell i hlt
        rw [ints_getD _ _ _ (by rw [Hlen.out]; exact hlt)] at hcl
        obtain ⟨y, hy⟩ : ∃ y, y = l.getD i 0 := ⟨_, rfl⟩
        rw [← hy] at hcl
        have HY := Lib.hid hy
        clear hcell hy
        by_cases hneg : y < 0
        · go_wp2_with fail
          go_ret
          exact ⟨rfl, B1.out⟩
        · have H2 : Hid (∀ j, j < i + 1 → 0 ≤ l.getD j 0) := Lib.hid (fun j h => by
            by_cases hj : j < i
            · exact Hp.out j hj
            · rw [show j = i from by omega, ← HY.out]; omega)
          go_wp2_with fail
          exact ⟨⟨i + 1, by omega, by first | rfl | simp, H2, by first | rfl | trivial⟩, by simp only [intOf]; omega⟩
      · have hin' : i = n := by omega
        subst hin'
        have hall : ∀ v ∈ l, InI v ∧ 0 ≤ v := fun v hv => ⟨HI.out v hv, by
          obtain ⟨j, hj, rfl⟩ := List.getElem_of_mem hv
          have := Hp.out j (by rw [Hlen.out] at hj; exact hj)
          rwa [List.getD_eq_getElem?_getD, List.getElem?_eq_getElem hj] at this⟩
        have hlaw := signs_law l hall (by rw [Hlen.out]; omega)
        rw [Hlen.out] at hlaw
        have Hlaw := Lib.hid hlaw
        have Hall := Lib.hid hall
        clear hall hlaw hlt hi
        go_wp2_with fail
        refine (renc9 A i c l false wr HlW.out HI.out (by omega)).mono ?_
        rintro e w2 ⟨v2, rfl, o2, b2⟩
        obtain ⟨A2, c2, rfl, s2⟩ := Sl.of_own o2 (nats_one _ _)
        have hl2 := HL.out
        generalize (encS false l).length = m2 at *
        have hd := decode_p A2 m2 c2 _ (i : Int) false w2 s2 HB8.out (by omega)
        rw [Hlaw.out.1] at hd
        have Hd := Lib.hid hd
        have B2 := Lib.hid b2
        have S2 := Lib.hid s2
        clear o2 b2 s2 hd
        go_wp2_with fail
        refine Hd.out.mono ?_
        rintro e w3 ⟨A3, c3, rfl, s3, b3⟩
        dsimp only at s3 ⊢
        rw [Hlen.out] at s3 ⊢
        have hd := decode_p A2 m2 c2 _ (i : Int) true w3 (S2.out.keep b3) HB8.out (by omega)
        rw [Hlaw.out.2] at hd
        have Hd3 := Lib.hid hd
        have B3 := Lib.hid b3
        have S3 := Lib.hid s3
        clear s3 b3 hd Hd hl2 HL
        go_wp2_with fail
        refine Hd3.out.mono ?_
        rintro e w4 ⟨A4, c4, rfl, s4, b4⟩
        dsimp only at s4 ⊢
        rw [List.length_map, Hlen.out] at s4 ⊢
        have B4 := Lib.hid b4
        have S4 := Lib.hid s4
        have S3' := Lib.hid (S3.out.keep b4)
        have SL := Lib.hid (((HlW.out.keep B2.out).keep B3.out).keep b4)
        clear s4 b4 Hd3
        go_wp2_with fail
        refine (sameI_yes _ _ _ _ _ _ w4 S3'.out SL.out (by omega)).mono ?_
        rintro e w5 ⟨rfl, b5⟩
        have B5 := Lib.hid b5
        have S45 := Lib.hid (S4.out.keep b5)
        have SL5 := Lib.hid (SL.out.keep b5)
        clear b5
        go_wp2_with fail
        go_loopw [9] (fun iv wr => ∃ j : Nat, j ≤ i ∧ iv = .int .i64 (j : Int) ∧ Hid (Below w5.heap.size w5 wr)) (fun iv _ => i - (intOf iv).toNat)
        case atStart => exact ⟨0, Nat.zero_le _, rfl, Lib.hid (Below.refl _ _)⟩
        case round =>
          obtain ⟨j, hj, rfl, Hbl⟩ := hrel
          by_cases hlt : j < i
          · obtain ⟨b, off, rfl, hbw, hcell⟩ := SL5.out.at_ (by omega)
            obtain ⟨b', off', rfl, hbw', hcell'⟩ := S45.out.at_ (by omega)
            have h1 := hcell j hlt
            have h2 := hcell' j hlt
            rw [ints_getD _ _ _ (by rw [Hlen.out]; exact hlt)] at h1
            rw [ints_getD _ _ _ (by rw [List.length_map, Hlen.out]; exact hlt)] at h2
            have e1 : (l.map zagS).getD j 0 = zagS (l.getD j 0) := by
              rw [List.getD_eq_getElem?_getD, List.getD_eq_getElem?_getD, List.getElem?_map, List.getElem?_eq_getElem (by rw [Hlen.out]; exact hlt)]; rfl
            have hy := Hall.out (l.getD j 0) (by rw [List.getD_eq_getElem?_getD, List.getElem?_eq_getElem (by rw [Hlen.out]; exact hlt)]; exact List.getElem_mem _)
            rw [e1] at h2
            generalize l.getD j 0 = y at *
            obtain ⟨hyI, hy0⟩ := hy
            unfold InI at hyI
            have hy1 := hyI.2
            have Hz := Lib.hid (fun W => (zag_r y W hy0 (by omega)).mono (fun e w' h => (⟨h.1, h.2.symm⟩ : e = .returned (.int .i64 (zagS y)) ∧ w' = W)))
            generalize zagS y = z at *
            have c1 := (Hbl.out.cell (p := ⟨b, off + j, none⟩) hbw).trans h1
            have c2 := (Hbl.out.cell (p := ⟨b', off' + j, none⟩) hbw').trans h2
            clear hcell hcell' h1 h2 e1 hyI
            go_wp2_with fail
            go_quiet ((go_at_call 13; exact Calls.quiet_of_same (Hz.out _)))
            go_wp2_with fail
            exact ⟨⟨j + 1, by omega, by go_num, Lib.hid (below_trans' Hbl.out (below_drewN _ _))⟩, by simp only [intOf]; omega⟩
          · go_wp2_with fail
            go_ret
            exact ⟨rfl, below_trans' (below_trans' (below_trans' (below_trans' (below_trans' B1.out B2.out) B3.out) B4.out) B5.out) Hbl.out⟩
end Go.Proofs.Ytehcbgnoiogncaa
