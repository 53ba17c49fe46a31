/- RunSame: the walk. -/
import Derived.Test.YtcmmgehghlaofaaBrleLaw
namespace Go.Proofs.Ytcmmgehghlaofaa
open Go.RowKit
set_option linter.unusedVariables false

theorem fill_step (n i c : Nat) (hi : i < n) : (List.replicate i c ++ List.replicate (n - i) 0).set i c = List.replicate (i + 1) c ++ List.replicate (n - (i + 1)) 0 := by
  rw [List.set_append_right _ _ (by simp), List.length_replicate, Nat.sub_self, show n - i = n - (i + 1) + 1 from by omega, List.replicate_succ, List.set_cons_zero, List.replicate_succ', List.append_assoc]
  rfl

set_option maxHeartbeats 3200000 in
set_option maxRecDepth 4000 in
theorem law_RunSame (c0 n0 : Int) (w : World) (hc0 : 0 ≤ c0 ∧ c0 < 256) (hn0 : -9223372036854775808 ≤ n0 ∧ n0 ≤ 9223372036854775807) :
    Calls Try.prog 4 #[.int .u8 c0, .int .i64 n0] w fun e w' => e = .returned (.bool true) ∧ Below w.heap.size w w' := by
  obtain ⟨c, rfl⟩ : ∃ c : Nat, c0 = (c : Int) := ⟨c0.toNat, by omega⟩
  have hc : c < 256 := by omega
  by_cases hneg : n0 < 0
  · go_enter Try.func4, Try.ntmps4
    go_wp2_with fail
    refine (known6 _).mono ?_
    rintro e w1 ⟨rfl, hb1⟩
    go_wp2_with fail
    go_ret
    exact ⟨rfl, hb1⟩
  · obtain ⟨n, rfl⟩ : ∃ n : Nat, n0 = (n : Int) := ⟨n0.toNat, by omega⟩
    by_cases hn : n ≤ 16384
    · obtain ⟨i0, hi, hz0, hz1, hz2⟩ := info_parts Try.info5
      clear hc0 hn0 hneg
      go_enter Try.func4, Try.ntmps4
      go_wp2_with fail
      refine (known6 _).mono ?_
      rintro e w1 ⟨rfl, hb1⟩
      go_wp2_with (at_make; refine wpList_make_full _ rfl _ _ 22 rfl w1.heap.size 5 i0 (.int .u8 0) 1 Try.underlying22 hi hz0 hz1 .i64 .i64 _ _ n rfl rfl rfl rfl ?b2 ?b3 ?b4 ?_)
      case b2 => rw [hz2]; omega
      case b3 => unfold maxLen; omega
      case b4 => exact Nat.le_refl _
      intro w2 hown hgrow
      rw [toList_madeCells_one, show (Value.int .u8 0) = Value.int .u8 ((0 : Nat) : Int) from rfl, show List.replicate n (Value.int .u8 ((0 : Nat) : Int)) = nats .u8 (List.replicate 0 c ++ List.replicate (n - 0) 0) from by simp [nats]] at hown
      have hb2 : Below w1.heap.size w1 w2 := (Below.refl _ _).grown hgrow (Nat.le_refl _) (fun k hk => by cases hk)
      have Hown := Lib.hid hown
      clear hown hgrow
      go_wp2_with fail
      go_loopw [6] (fun iv wr => ∃ i : Nat, i ≤ n ∧ iv = .int .i64 (i : Int) ∧ Hid (wr.ownsRow w1.heap.size 5 1 (.slice (some ⟨w1.heap.size, 0, none⟩) n n) n (nats .u8 (List.replicate i c ++ List.replicate (n - i) 0))) ∧ Below w1.heap.size w1 wr) (fun iv _ => n - (intOf iv).toNat)
      case atStart => exact ⟨0, Nat.zero_le _, rfl, Hown.out, hb2⟩
      case round =>
        obtain ⟨i, hi', rfl, Ho, hb⟩ := hrel
        by_cases hlt : i < n
        · obtain ⟨u, hcu⟩ : ∃ u, wr.cell? ⟨w1.heap.size, i, none⟩ = some u := by
            have h1 := Ho.out.cellAt i (by omega)
            rw [List.getElem?_eq_getElem (by rw [nats_length, List.length_append, List.length_replicate, List.length_replicate]; omega)] at h1
            exact ⟨_, h1⟩
          have hfu : wr.frozen? ⟨w1.heap.size, i, none⟩ = false := Ho.out.frozenAt i
          have h1 := (Ho.out.stored i (.int .u8 (c : Int))).1
          rw [nats_set, fill_step n i c hlt] at h1
          have H1 := Lib.hid h1
          have hb' := hb.setCell (p := ⟨w1.heap.size, i, none⟩) (Nat.le_refl _) (.int .u8 (c : Int))
          clear h1
          go_wp2_with fail
          exact ⟨⟨i + 1, by omega, by go_num, H1.out, hb'⟩, by simp only [intOf]; omega⟩
        · obtain rfl : i = n := by omega
          have hs := Sl.of_own_at Ho.out (nats_one _ _)
          rw [Nat.sub_self, List.replicate_zero, List.append_nil] at hs
          have hl8 : ∀ x ∈ List.replicate i c, x < 256 := fun x hx => by rw [List.eq_of_mem_replicate hx]; exact hc
          have Hs := Lib.hid hs
          have Henc := Lib.hid (enc_p _ _ _ _ wr hs hl8 (by omega))
          have Hl8 := Lib.hid hl8
          clear hs hl8
          go_wp2_with fail
          refine Henc.out.mono ?_
          rintro e w3 ⟨A3, m3, rfl, hs3, hb3⟩
          have hm3 := hs3.len
          rw [nats_length] at hm3
          have hsame := encS_same i c
          rw [hm3] at hsame
          have hdec := rdec_enc A3 m3 m3 (List.replicate i c) w3 hs3 Hl8.out (by rw [List.length_replicate]; omega)
          rw [List.length_replicate] at hdec
          have Hdec := Lib.hid hdec
          clear hdec hm3
          go_wp2_with fail
          refine Hdec.out.mono ?_
          rintro e w4 ⟨A4, c4, rfl, hs4, hb4⟩
          have q1 := run_convert_sl (P := Try.prog) Try.underlying22 Try.underlying5 Try.underlying9 hs4
          have q2 := run_convert_sl (P := Try.prog) Try.underlying22 Try.underlying5 Try.underlying9 (Hs.out.keep (below_trans' hb3 hb4))
          have HB := Lib.hid (below_trans' hb1 (below_trans' hb (below_trans' hb3 hb4)))
          by_cases hr : 0 < i % 130
          · have hr1 : (0 : Int) < (i : Int) % 130 := by omega
            have hfin : (m3 : Int) ≤ 2 * ((i : Int) / 130 + 1) + 3 := by omega
            clear hs3 hs4 hb1 hb2 hb hb3 hb4 hsame
            go_wp2_with fail
            go_ret
            exact ⟨by first | rfl | simp, HB.out⟩
          · have hr1 : ¬ (0 : Int) < (i : Int) % 130 := by omega
            have hfin : (m3 : Int) ≤ 2 * ((i : Int) / 130) + 3 := by omega
            clear hs3 hs4 hb1 hb2 hb hb3 hb4 hsame
            go_wp2_with fail
            go_ret
            exact ⟨by first | rfl | simp, HB.out⟩
    · go_enter Try.func4, Try.ntmps4
      go_wp2_with fail
      refine (known6 _).mono ?_
      rintro e w1 ⟨rfl, hb1⟩
      go_wp2_with fail
      go_ret
      exact ⟨rfl, hb1⟩
end Go.Proofs.Ytcmmgehghlaofaa
