/- RunsCounts: the walk. -/
import Derived.Test.YtehcbgnoiogncaaRunREnc
namespace Go.Proofs.Ytehcbgnoiogncaa
open Go.RowKit
open PackMath
set_option linter.unusedVariables false

theorem encS_few (sg : Bool) (l : List Int) (n : Nat) (h : l.length = n) (hn : n ≤ 100000) : (encS sg l).length ≤ 1000000 := by
  rw [encS_len, h]
  omega
set_option maxHeartbeats 3200000 in
set_option maxRecDepth 4000 in
theorem law_RunsCounts (A : Option Addr) (n c : Nat) (l : List Int) (count : Int) (w : World) (hl : Sl w A n c (ints .i64 l)) (hI : ∀ v ∈ l, -9223372036854775808 ≤ v ∧ v ≤ 9223372036854775807) (hc : -9223372036854775808 ≤ count ∧ count ≤ 9223372036854775807) :
    Calls Try.prog 9 #[.slice A n c, .int .i64 count] w fun e w' => e = .returned (.bool true) ∧ Below w.heap.size w w' := by
  have hn63 : (n : Int) ≤ 9223372036854775807 := by
    have h1 := hl.le
    have h2 := hl.max
    unfold maxLen at h2
    omega
  have hlen := hl.len
  rw [ints_length] at hlen
  by_cases hin : 1 ≤ n ∧ n ≤ 600
  · obtain ⟨hn1, hn2⟩ := hin
    have Hlaw := Lib.hid (counts_law l hI (by omega) count)
    rw [hlen] at Hlaw
    have Hl := Lib.hid hl
    have HI := Lib.hid hI
    have HB8 := Lib.hid (encS_byte true l)
    have HL := Lib.hid (encS_few true l n hlen (by omega))
    have Hlen := Lib.hid hlen
    have q1 : ((n : Int) == 0) = false := beq_eq_false_iff_ne.2 (by omega)
    have q2 : decide ((600 : Int) < (n : Int)) = false := decide_eq_false (by omega)
    clear hl hI hlen
    go_enter Try.func9, Try.ntmps9
    go_wp2_with fail
    refine (known9 _).mono ?_
    rintro e w1 ⟨rfl, b1⟩
    have B1 := Lib.hid b1
    clear b1
    go_wp2_with fail
    refine (renc9 A n c l true w1 (Hl.out.keep B1.out) HI.out (by omega)).mono ?_
    rintro e w2 ⟨v2, rfl, o2, b2⟩
    obtain ⟨A2, c2, rfl, s2⟩ := Sl.of_own o2 (nats_one _ _)
    have hl2 := HL.out
    generalize (encS true l).length = m2 at *
    have hd := decode_p A2 m2 c2 _ count true w2 s2 HB8.out (by omega)
    rw [Hlaw.out] at hd
    have Hd := Lib.hid hd
    have B2 := Lib.hid (below_trans' B1.out b2)
    clear o2 b2 s2 hd hl2 HL
    by_cases hc1 : count < 0 ∨ 16384 < count
    · rw [if_pos hc1] at Hd
      have qq : (decide (count < 0) || decide (16384 < count)) = true := by simpa using hc1
      clear hc1 Hlaw
      go_wp2_with fail
      refine Hd.out.mono ?_
      rintro e w3 ⟨B3, c3, rfl, s3, b3⟩
      dsimp only [List.length_nil] at s3 ⊢
      have B3 := Lib.hid b3
      clear s3 b3
      go_wp2_with fail
      all_goals (go_ret; exact ⟨rfl, below_trans' B2.out B3.out⟩)
    · rw [if_neg hc1] at Hd
      have hc0 : ¬ count < 0 := fun h => hc1 (.inl h)
      have hc16 : ¬ 16384 < count := fun h => hc1 (.inr h)
      clear hc1 Hlaw
      by_cases h2 : count < (n : Int)
      · rw [if_pos h2] at Hd
        go_wp2_with fail
        refine Hd.out.mono ?_
        rintro e w3 ⟨B3, c3, rfl, s3, b3⟩
        dsimp only [List.length_nil] at s3 ⊢
        have B3 := Lib.hid b3
        clear s3 b3
        go_wp2_with fail
        go_ret
        exact ⟨rfl, below_trans' B2.out B3.out⟩
      · rw [if_neg h2] at Hd
        by_cases h3 : (n : Int) < count
        · rw [if_pos h3] at Hd
          go_wp2_with fail
          refine Hd.out.mono ?_
          rintro e w3 ⟨B3, c3, rfl, s3, b3⟩
          dsimp only [List.length_nil] at s3 ⊢
          have B3 := Lib.hid b3
          clear s3 b3
          go_wp2_with fail
          go_ret
          exact ⟨rfl, below_trans' B2.out B3.out⟩
        · rw [if_neg h3] at Hd
          go_wp2_with fail
          refine Hd.out.mono ?_
          rintro e w3 ⟨B3, c3, rfl, s3, b3⟩
          dsimp only at s3 ⊢
          rw [Hlen.out] at s3 ⊢
          have B3 := Lib.hid b3
          have S3 := Lib.hid s3
          have SL := Lib.hid ((Hl.out.keep B2.out).keep b3)
          clear s3 b3
          go_wp2_with fail
          refine (sameI_yes _ _ _ _ _ _ w3 S3.out SL.out (by omega)).mono ?_
          rintro e w4 ⟨rfl, b4⟩
          have B4 := Lib.hid b4
          clear b4
          go_wp2_with fail
          go_ret
          exact ⟨rfl, below_trans' (below_trans' B2.out B3.out) B4.out⟩
  · clear hl hlen
    go_enter Try.func9, Try.ntmps9
    have q : (decide ((600 : Int) < (n : Int)) || ((n : Int) == 0)) = true := by
      simp only [Bool.or_eq_true, beq_iff_eq, decide_eq_true_eq]
      omega
    go_wp2_with fail
    refine (known9 _).mono ?_
    rintro e w1 ⟨rfl, b1⟩
    have B1 := Lib.hid b1
    clear b1
    go_wp2_with fail
    all_goals (go_ret; exact ⟨rfl, B1.out⟩)
end Go.Proofs.Ytehcbgnoiogncaa
