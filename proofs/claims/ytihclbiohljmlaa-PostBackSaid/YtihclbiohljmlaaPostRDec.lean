/- The reference's Decode of a postscript: what it answers. (Printed by gen/postdec.py.) -/
import Derived.Test.YtihclbiohljmlaaPostDec
namespace Go.Proofs.Ytihclbiohljmlaa
open Go.RowKit
set_option linter.unusedVariables false

theorem Try.info64 : (Try.prog.info? 64).map (fun i => (i.zero, i.size, i.bytes)) = some (some (.agg #[.int .i64 0, .int .i64 0, .int .i64 0, .int .i64 0]), 4, 32) := by kernel_rfl

set_option maxHeartbeats 3200000 in
set_option maxRecDepth 100000 in
theorem rdecode_p (A : Option Addr) (n c : Nat) (bs : List Nat) (w : World) (hb : Sl w A n c (nats .u8 bs)) (hbs : ∀ x ∈ bs, x < 256) (hn : n ≤ 100000) :
    Calls Try.prog 31 #[.slice A n c] w fun e w' => e = .returned (.tuple #[postV (decS bs).1, .int .i64 ((decS bs).2 : Int)]) ∧ Below w.heap.size w w' := by
  obtain ⟨j0, hj, hy0, hy1, hy2⟩ := info_parts Try.info64
  have hlen := hb.len
  rw [nats_length] at hlen
  have hin := parS_in bs hbs
  rw [hlen] at hin
  have hp1 := fun w h => rparse_p A n c bs w h hbs (by omega)
  unfold decS
  generalize parS bs = R at hin hp1
  obtain ⟨fs, er⟩ := R
  dsimp only at hin ⊢
  have Hb := Lib.hid hb
  have Hp1 := Lib.hid hp1
  have Hin := Lib.hid hin
  clear hb hbs hlen hp1 hin
  by_cases her : er = 0
  · subst her
    rw [if_neg (by simp)]
    have hfew := Hin.out.2
    have u1 := uOf_lt fs 1 0 fun f hf => (Hin.out.1 f hf).u
    have u2 := uOf_lt fs 2 0 fun f hf => (Hin.out.1 f hf).u
    have u3 := uOf_lt fs 3 0 fun f hf => (Hin.out.1 f hf).u
    have u5 := uOf_lt fs 5 0 fun f hf => (Hin.out.1 f hf).u
    have ht8 : ∀ x ∈ bOf (lastF fs 8000 2), x < 256 := bOf_b fs 8000 2 fun f hf => (Hin.out.1 f hf).b
    have K2 : ∀ F m cF ps w, Flds w F m cF ps → ps.map FA.f = fs → ∃ B cB, Txt w B cB (bOf (lastF fs 8000 2)) ∧ Calls Try.prog 18 #[.slice F m cF, .int .i64 8000] w fun e W' => e = .returned (.tuple #[.slice B (bOf (lastF fs 8000 2)).length cB, .bool (lastF fs 8000 2).isSome]) ∧ w = W' := fun F m cF ps w h he => by
      have h1 := rtext_p F m cF ps 8000 w h (by have := flds_len' h he; omega)
      rw [he] at h1
      have h2 := last_txt h 8000 2
      have hbo : bOf (lastF fs 8000 2) = ((lastA ps 8000 2).getD noFA).f.b := by rw [bOf_getD, lastA_f, he]
      rw [hbo]
      exact ⟨_, _, h2, h1⟩
    have K : ∀ (num : Int) F m cF ps w, Flds w F m cF ps → ps.map FA.f = fs → Calls Try.prog 14 #[.slice F m cF, .int .i64 num] w fun e W' => e = .returned (.tuple #[.int .u64 ((uOf (lastF fs num 0) : Nat) : Int), .bool (lastF fs num 0).isSome]) ∧ w = W' := fun num F m cF ps w h he => by
      have := ruint_p F m cF ps num w h (by have := flds_len' h he; omega)
      rw [he] at this; exact this
    have hi8 : (lastF fs 8000 2).isSome = false → bOf (lastF fs 8000 2) = [] := fun h => by
      cases hf : lastF fs 8000 2 with
      | none => rfl
      | some f => rw [hf] at h; cases h
    have H2 := Lib.hid K2
    have H3 := Lib.hid (K 1)
    have H4 := Lib.hid (K 2)
    have H5 := Lib.hid (K 3)
    have H6 := Lib.hid (K 5)
    have Hi8 := Lib.hid hi8
    clear K2 K hi8
    generalize hR : decF fs = R
    unfold decF at hR
    generalize uOf (lastF fs 1 0) = f1 at *
    generalize uOf (lastF fs 2 0) = f2 at *
    generalize uOf (lastF fs 3 0) = f3 at *
    generalize uOf (lastF fs 5 0) = f5 at *
    generalize (lastF fs 1 0).isSome = i1 at *
    generalize (lastF fs 2 0).isSome = i2 at *
    generalize (lastF fs 3 0).isSome = i3 at *
    generalize (lastF fs 5 0).isSome = i5 at *
    generalize bOf (lastF fs 8000 2) = tb at *
    generalize (lastF fs 8000 2).isSome = i8 at *
    have Ht8 := Lib.hid ht8
    have HR := Lib.hid hR
    clear ht8 Hin hR
    go_enter Try.func31, Try.ntmps31
    go_wp2_with fail
    refine (Hp1.out _ (Hb.out.keep (below_new _ _))).mono ?_
    rintro e w1 ⟨F1, m1, cF1, ps1, rfl, hfl1, hps1, b1⟩
    dsimp only at hps1
    obtain ⟨T2, tc2, t2, h2⟩ := H2.out _ _ _ _ w1 hfl1 hps1
    have H2w := Lib.hid h2
    have HH3 := Lib.hid (H3.out _ _ _ _ w1 hfl1 hps1)
    have HH4 := Lib.hid (H4.out _ _ _ _ w1 hfl1 hps1)
    have HH5 := Lib.hid (H5.out _ _ _ _ w1 hfl1 hps1)
    have HH6 := Lib.hid (H6.out _ _ _ _ w1 hfl1 hps1)
    have q1 := run_convert_sl (P := Try.prog) Try.underlying22 Try.underlying5 Try.underlying9 t2.sl
    have HbA : Hid (w1.heap[w.heap.size]? = some (.cells #[.int .i64 0, .int .i64 0, .int .i64 0, .int .i64 0] 64 (0, 0))) := Lib.hid ((b1.block _ (by simp)).trans (heap_alloc_new w _))
    have Hbel : Hid (Below w.heap.size w w1) := Lib.hid (((Below.refl _ _).alloc (Nat.le_refl _) _).trans (b1.mono (by simp)))
    clear hps1 hfl1 b1 Hp1 h2 t2 H2 H3 H4 H5 H6
    generalize htl : tb.length = tl at *
    have Htl := Lib.hid htl
    clear htl
    go_wp2_with fail
    refine H2w.out.mono ?_
    rintro e w2 ⟨rfl, rfl⟩
    go_wp2_with fail
    refine HH3.out.mono ?_
    rintro e w2 ⟨rfl, rfl⟩
    cases i8 with
    | false =>
      have htb : tb = [] := Hi8.out rfl
      subst htb
      have hno : ¬ (([] : List Nat) = magicB) := by decide
      clear q1
      have hr := HR.out
      rw [if_pos (.inl hno)] at hr
      subst hr
      go_wp2_with (refine wpList_store_row rfl 64 (.tmp 2) (.tmp 47) rfl w.heap.size #[.int .i64 0, .int .i64 0, .int .i64 0, .int .i64 0] rfl rfl 64 _ HbA.out ?e111 ?e112 ?e113 ?_)
      all_goals first
        | (case e113 => first | rfl | simp [Value.oneCell'])
        | (case e111 => first | kernel_rfl | exact ⟨j0, hj, hy1⟩)
        | (case e112 => rfl)
        | skip
      refine bodyPost_ret (results_cell_row2 rfl _ _ w.heap.size _ _ (0, 0) _ rfl (setRow_heap _ _ _ _ _ _ HbA.out) Try.underlying64 rfl (by kernel_rfl)) rfl ?_
      exact ⟨by first | rfl | simp [postV, PostV.zero], Below.setRow' Hbel.out (Nat.le_refl _) _⟩
    | true =>
      clear Hi8
      by_cases hmg : tb = magicB
      · subst hmg
        rw [magic_str] at q1
        cases i1 with
        | false =>
          have hr := HR.out
          rw [if_pos (.inr rfl)] at hr
          subst hr
          go_wp2_with (refine wpList_store_row rfl 64 (.tmp 2) (.tmp 47) rfl w.heap.size #[.int .i64 0, .int .i64 0, .int .i64 0, .int .i64 0] rfl rfl 64 _ HbA.out ?e121 ?e122 ?e123 ?_)
          all_goals first
            | (case e123 => first | rfl | simp [Value.oneCell'])
            | (case e121 => first | kernel_rfl | exact ⟨j0, hj, hy1⟩)
            | (case e122 => rfl)
            | skip
          refine bodyPost_ret (results_cell_row2 rfl _ _ w.heap.size _ _ (0, 0) _ rfl (setRow_heap _ _ _ _ _ _ HbA.out) Try.underlying64 rfl (by kernel_rfl)) rfl ?_
          exact ⟨by first | rfl | simp [postV, PostV.zero], Below.setRow' Hbel.out (Nat.le_refl _) _⟩
        | true =>
          go_wp2_with fail
          refine HH4.out.mono ?_
          rintro e w2 ⟨rfl, rfl⟩
          go_wp2_with fail
          refine HH5.out.mono ?_
          rintro e w2 ⟨rfl, rfl⟩
          go_wp2_with fail
          refine HH6.out.mono ?_
          rintro e w2 ⟨rfl, rfl⟩
          by_cases hl1 : 65536 < f1
          · skip
            have hr := HR.out
            rw [if_neg (by simp), if_pos (.inl hl1)] at hr
            subst hr
            go_wp2_with (refine wpList_store_row rfl 64 (.tmp 2) (.tmp 70) rfl w.heap.size #[.int .i64 0, .int .i64 0, .int .i64 0, .int .i64 0] rfl rfl 64 _ HbA.out ?e131 ?e132 ?e133 ?_)
            all_goals first
              | (case e133 => first | rfl | simp [Value.oneCell'])
              | (case e131 => first | kernel_rfl | exact ⟨j0, hj, hy1⟩)
              | (case e132 => rfl)
              | skip
            refine bodyPost_ret (results_cell_row2 rfl _ _ w.heap.size _ _ (0, 0) _ rfl (setRow_heap _ _ _ _ _ _ HbA.out) Try.underlying64 rfl (by kernel_rfl)) rfl ?_
            exact ⟨by first | rfl | simp [postV, PostV.zero], Below.setRow' Hbel.out (Nat.le_refl _) _⟩
          · by_cases hl5 : 65536 < f5
            · skip
              have hr := HR.out
              rw [if_neg (by simp), if_pos (.inr hl5)] at hr
              subst hr
              go_wp2_with (refine wpList_store_row rfl 64 (.tmp 2) (.tmp 70) rfl w.heap.size #[.int .i64 0, .int .i64 0, .int .i64 0, .int .i64 0] rfl rfl 64 _ HbA.out ?e141 ?e142 ?e143 ?_)
              all_goals first
                | (case e143 => first | rfl | simp [Value.oneCell'])
                | (case e141 => first | kernel_rfl | exact ⟨j0, hj, hy1⟩)
                | (case e142 => rfl)
                | skip
              refine bodyPost_ret (results_cell_row2 rfl _ _ w.heap.size _ _ (0, 0) _ rfl (setRow_heap _ _ _ _ _ _ HbA.out) Try.underlying64 rfl (by kernel_rfl)) rfl ?_
              exact ⟨by first | rfl | simp [postV, PostV.zero], Below.setRow' Hbel.out (Nat.le_refl _) _⟩
            · have hno : ¬ (65536 < f1 ∨ 65536 < f5) := by omega
              by_cases h0 : f2 = 0
              · subst h0
                have hr := HR.out
                rw [if_neg (by simp), if_neg hno, if_neg (by simp), if_pos rfl] at hr
                subst hr
                clear u2
                have hlt := (Array.getElem?_eq_some_iff.1 HbA.out).1
                have HA0 : Hid (∀ o, (w1.alloc o).heap[w.heap.size]? = some (.cells #[.int .i64 0, .int .i64 0, .int .i64 0, .int .i64 0] 64 (0, 0))) := Lib.hid fun o => ((below_new w1 o).block _ hlt).trans HbA.out
                have HA4 : Hid (∀ o v, ((w1.alloc o).setCell ⟨w1.heap.size, 2, none⟩ v).heap[w.heap.size]? = some (.cells #[.int .i64 0, .int .i64 0, .int .i64 0, .int .i64 0] 64 (0, 0))) := Lib.hid fun o v => (heap_setCell_other _ _ _ _ (by simp; omega)).trans (HA0.out o)
                go_wp2_with (refine wpList_store_row rfl 64 (.tmp 2) (.tmp 103) rfl w.heap.size #[.int .i64 (f1 : Int), .int .i64 0, .int .i64 0, .int .i64 (f5 : Int)] rfl rfl 64 _ (HA0.out _) ?e151 ?e152 ?e153 ?_)
                all_goals first
                  | (case e153 => first | rfl | simp [Value.oneCell'])
                  | (case e151 => first | kernel_rfl | exact ⟨j0, hj, hy1⟩)
                  | (case e152 => rfl)
                  | skip
                refine bodyPost_ret (results_cell_row2 rfl _ _ w.heap.size _ _ (0, 0) _ rfl (setRow_heap _ _ _ _ _ _ (HA0.out _)) Try.underlying64 rfl (by kernel_rfl)) rfl ?_
                exact ⟨by first | rfl | simp [postV, PostV.zero], Below.setRow' (Hbel.out.alloc Hbel.out.size _) (Nat.le_refl _) _⟩
              · by_cases h4 : f2 = 4
                · subst h4
                  by_cases hs : f3 < 64
                  · skip
                    have hr := HR.out
                    rw [if_neg (by simp), if_neg hno, if_neg (by simp), if_neg (by decide), if_pos (.inl hs)] at hr
                    subst hr
                    go_wp2_with (refine wpList_store_row rfl 64 (.tmp 2) (.tmp 90) rfl w.heap.size #[.int .i64 0, .int .i64 0, .int .i64 0, .int .i64 0] rfl rfl 64 _ HbA.out ?e161 ?e162 ?e163 ?_)
                    all_goals first
                      | (case e163 => first | rfl | simp [Value.oneCell'])
                      | (case e161 => first | kernel_rfl | exact ⟨j0, hj, hy1⟩)
                      | (case e162 => rfl)
                      | skip
                    refine bodyPost_ret (results_cell_row2 rfl _ _ w.heap.size _ _ (0, 0) _ rfl (setRow_heap _ _ _ _ _ _ HbA.out) Try.underlying64 rfl (by kernel_rfl)) rfl ?_
                    exact ⟨by first | rfl | simp [postV, PostV.zero], Below.setRow' Hbel.out (Nat.le_refl _) _⟩
                  · by_cases hs2 : 65536 < f3
                    · skip
                      have hr := HR.out
                      rw [if_neg (by simp), if_neg hno, if_neg (by simp), if_neg (by decide), if_pos (.inr hs2)] at hr
                      subst hr
                      go_wp2_with (refine wpList_store_row rfl 64 (.tmp 2) (.tmp 90) rfl w.heap.size #[.int .i64 0, .int .i64 0, .int .i64 0, .int .i64 0] rfl rfl 64 _ HbA.out ?e171 ?e172 ?e173 ?_)
                      all_goals first
                        | (case e173 => first | rfl | simp [Value.oneCell'])
                        | (case e171 => first | kernel_rfl | exact ⟨j0, hj, hy1⟩)
                        | (case e172 => rfl)
                        | skip
                      refine bodyPost_ret (results_cell_row2 rfl _ _ w.heap.size _ _ (0, 0) _ rfl (setRow_heap _ _ _ _ _ _ HbA.out) Try.underlying64 rfl (by kernel_rfl)) rfl ?_
                      exact ⟨by first | rfl | simp [postV, PostV.zero], Below.setRow' Hbel.out (Nat.le_refl _) _⟩
                    · skip
                      have hr := HR.out
                      rw [if_neg (by simp), if_neg hno, if_neg (by simp), if_neg (by decide), if_neg (by omega)] at hr
                      subst hr
                      clear u2
                      have hlt := (Array.getElem?_eq_some_iff.1 HbA.out).1
                      have HA0 : Hid (∀ o, (w1.alloc o).heap[w.heap.size]? = some (.cells #[.int .i64 0, .int .i64 0, .int .i64 0, .int .i64 0] 64 (0, 0))) := Lib.hid fun o => ((below_new w1 o).block _ hlt).trans HbA.out
                      have HA4 : Hid (∀ o v, ((w1.alloc o).setCell ⟨w1.heap.size, 2, none⟩ v).heap[w.heap.size]? = some (.cells #[.int .i64 0, .int .i64 0, .int .i64 0, .int .i64 0] 64 (0, 0))) := Lib.hid fun o v => (heap_setCell_other _ _ _ _ (by simp; omega)).trans (HA0.out o)
                      go_wp2_with (refine wpList_store_row rfl 64 (.tmp 2) (.tmp 103) rfl w.heap.size #[.int .i64 (f1 : Int), .int .i64 4, .int .i64 (f3 : Int), .int .i64 (f5 : Int)] rfl rfl 64 _ (HA0.out _) ?e181 ?e182 ?e183 ?_)
                      all_goals first
                        | (case e183 => first | rfl | simp [Value.oneCell'])
                        | (case e181 => first | kernel_rfl | exact ⟨j0, hj, hy1⟩)
                        | (case e182 => rfl)
                        | skip
                      refine bodyPost_ret (results_cell_row2 rfl _ _ w.heap.size _ _ (0, 0) _ rfl (setRow_heap _ _ _ _ _ _ (HA0.out _)) Try.underlying64 rfl (by kernel_rfl)) rfl ?_
                      exact ⟨by first | rfl | simp [postV, PostV.zero], Below.setRow' (Hbel.out.alloc Hbel.out.size _) (Nat.le_refl _) _⟩
                · have g0 : ((f2 : Int) != 0) = true := by simp; omega
                  have g4 : ((f2 : Int) != 4) = true := by simp; omega
                  have hr := HR.out
                  rw [if_neg (by simp), if_neg hno, if_pos ⟨h0, h4⟩] at hr
                  subst hr
                  go_wp2_with (refine wpList_store_row rfl 64 (.tmp 2) (.tmp 78) rfl w.heap.size #[.int .i64 0, .int .i64 0, .int .i64 0, .int .i64 0] rfl rfl 64 _ HbA.out ?e191 ?e192 ?e193 ?_)
                  all_goals first
                    | (case e193 => first | rfl | simp [Value.oneCell'])
                    | (case e191 => first | kernel_rfl | exact ⟨j0, hj, hy1⟩)
                    | (case e192 => rfl)
                    | skip
                  refine bodyPost_ret (results_cell_row2 rfl _ _ w.heap.size _ _ (0, 0) _ rfl (setRow_heap _ _ _ _ _ _ HbA.out) Try.underlying64 rfl (by kernel_rfl)) rfl ?_
                  exact ⟨by first | rfl | simp [postV, PostV.zero], Below.setRow' Hbel.out (Nat.le_refl _) _⟩
      · have hms : (strOf tb).toList ≠ [79, 82, 67] := fun e => hmg (strOf_list_inj tb magicB Ht8.out (by decide) (e.trans magic_list.symm))
        have hmt : ((strOf tb).toList == [79, 82, 67]) = false := beq_eq_false_iff_ne.2 hms
        generalize strOf tb = str at *
        have hr := HR.out
        rw [if_pos (.inl hmg)] at hr
        subst hr
        go_wp2_with (refine wpList_store_row rfl 64 (.tmp 2) (.tmp 47) rfl w.heap.size #[.int .i64 0, .int .i64 0, .int .i64 0, .int .i64 0] rfl rfl 64 _ HbA.out ?e201 ?e202 ?e203 ?_)
        all_goals first
          | (case e203 => first | rfl | simp [Value.oneCell'])
          | (case e201 => first | kernel_rfl | exact ⟨j0, hj, hy1⟩)
          | (case e202 => rfl)
          | skip
        refine bodyPost_ret (results_cell_row2 rfl _ _ w.heap.size _ _ (0, 0) _ rfl (setRow_heap _ _ _ _ _ _ HbA.out) Try.underlying64 rfl (by kernel_rfl)) rfl ?_
        exact ⟨by first | rfl | simp [postV, PostV.zero], Below.setRow' Hbel.out (Nat.le_refl _) _⟩
  · rw [if_pos her]
    have hne : ((er : Int) != 0) = true := by simp; omega
    go_enter Try.func31, Try.ntmps31
    go_wp2_with fail
    refine (Hp1.out _ (Hb.out.keep (below_new _ _))).mono ?_
    rintro e w1 ⟨F1, m1, cF1, ps1, rfl, hfl1, hps1, b1⟩
    have HbA : Hid (w1.heap[w.heap.size]? = some (.cells #[.int .i64 0, .int .i64 0, .int .i64 0, .int .i64 0] 64 (0, 0))) := Lib.hid ((b1.block _ (by simp)).trans (heap_alloc_new w _))
    have Hbel : Hid (Below w.heap.size w w1) := Lib.hid (((Below.refl _ _).alloc (Nat.le_refl _) _).trans (b1.mono (by simp)))
    have HR : Hid ((PostV.zero, er) = (PostV.zero, er)) := Lib.hid rfl
    clear hfl1 hps1 b1
    have hr := HR.out
    skip
    clear hr
    go_wp2_with (refine wpList_store_row rfl 64 (.tmp 2) (.tmp 24) rfl w.heap.size #[.int .i64 0, .int .i64 0, .int .i64 0, .int .i64 0] rfl rfl 64 _ HbA.out ?e211 ?e212 ?e213 ?_)
    all_goals first
      | (case e213 => first | rfl | simp [Value.oneCell'])
      | (case e211 => first | kernel_rfl | exact ⟨j0, hj, hy1⟩)
      | (case e212 => rfl)
      | skip
    refine bodyPost_ret (results_cell_row2 rfl _ _ w.heap.size _ _ (0, 0) _ rfl (setRow_heap _ _ _ _ _ _ HbA.out) Try.underlying64 rfl (by kernel_rfl)) rfl ?_
    exact ⟨by first | rfl | simp [postV, PostV.zero], Below.setRow' Hbel.out (Nat.le_refl _) _⟩
end Go.Proofs.Ytihclbiohljmlaa
