/- post.codec, post.Decode: what they answer. (Printed by gen/postdec.py.) -/
import Derived.Test.YtihclbiohljmlaaOps7
import Derived.Test.YtihclbiohljmlaaPbKnown
import Derived.Test.YtihclbiohljmlaaPostFind
namespace Go.Proofs.Ytihclbiohljmlaa
open Go.RowKit
set_option linter.unusedVariables false

theorem flds_len' {w : World} {A : Option Addr} {n c : Nat} {ps : List FA} {R : List FieldV} (h : Flds w A n c ps) (he : ps.map FA.f = R) : n = R.length := by
  rw [← he, List.length_map, h.hl]
theorem lastF_mem {fs : List FieldV} {num : Int} {wire : Nat} {f : FieldV} (h : lastF fs num wire = some f) : f ∈ fs := by
  unfold lastF at h
  simpa using List.mem_of_find?_eq_some h
theorem uOf_lt (fs : List FieldV) (num : Int) (wire : Nat) (h : ∀ f ∈ fs, f.u < 18446744073709551616) : uOf (lastF fs num wire) < 18446744073709551616 := by
  cases hf : lastF fs num wire with
  | none => decide
  | some f => exact h f (lastF_mem hf)
theorem bOf_b (fs : List FieldV) (num : Int) (wire : Nat) (h : ∀ f ∈ fs, ∀ x ∈ f.b, x < 256) : ∀ x ∈ bOf (lastF fs num wire), x < 256 := by
  cases hf : lastF fs num wire with
  | none => exact fun _ h => by cases h
  | some f => exact h f (lastF_mem hf)
def postV (p : PostV) : Value := .agg #[.int .i64 (p.footer : Int), .int .i64 (p.codec : Int), .int .i64 (p.chunk : Int), .int .i64 (p.meta_ : Int)]
theorem Try.info61 : (Try.prog.info? 61).map (fun i => (i.zero, i.size, i.bytes)) = some (some (.agg #[.int .i64 0, .int .i64 0, .int .i64 0, .int .i64 0]), 4, 32) := by kernel_rfl
theorem results_cell_row2 {P : Program} {fn : Func} {p u : Tmp} {ty : TypeId} (h : fn.results = #[.cell p ty, .tmp u]) (tmps : Array Value) (w : World) (g : Nat) (t : TypeId) (cs : Array Value) (fr : Nat × Nat) (d : TypeDesc)
    (hp : tmps.getD p undef = .pointer (some ⟨g, 0, none⟩)) (hg : w.heap[g]? = some (.cells cs t fr))
    (hu : P.underlying ty = some d) (hd : (match d with | .struct _ | .array _ _ => true | _ => false) = true) (hi : (P.info? ty).map (·.size) = some cs.size) :
    (results fn tmps).run P w = .ok (.tuple #[.agg cs, tmps.getD u undef]) w := by
  have hp' : tmps[p]?.getD undef = .pointer (some ⟨g, 0, none⟩) := by simpa using hp
  simp [results, h, hp', asAddr, run_loadVar_row w g t ty cs fr d hg hu hd hi]
theorem magic_str : strOf magicB = ⟨#[79, 82, 67]⟩ := by decide
theorem magic_list : (strOf magicB).toList = [79, 82, 67] := by
  unfold strOf
  rw [Lib.strOfNums_toList]
  rfl

set_option maxHeartbeats 400000 in
theorem codec_p (c : Nat) (w : World) (hc : c < 18446744073709551616) :
    Calls Try.prog 55 #[.int .u64 (c : Int)] w fun e w' => e = .returned (.tuple #[.bool (c == 0 || c == 4), .bool (c == 4)]) ∧ w = w' := by
  by_cases h4 : c = 4
  · subst h4
    go_enter Try.func55, Try.ntmps55
    go_wp2
    go_ret2
    exact ⟨rfl, rfl⟩
  · by_cases h0 : c = 0
    · subst h0
      go_enter Try.func55, Try.ntmps55
      go_wp2
      go_ret2
      exact ⟨rfl, rfl⟩
    · have e4 : ((c : Int) == 4) = false := beq_eq_false_iff_ne.2 (by omega)
      have e0 : ((c : Int) == 0) = false := beq_eq_false_iff_ne.2 (by omega)
      have f0 : (c == 0) = false := beq_eq_false_iff_ne.2 h0
      have f4 : (c == 4) = false := beq_eq_false_iff_ne.2 h4
      rw [f0, f4]
      clear h0 h4 f4
      go_enter Try.func55, Try.ntmps55
      go_wp2
      go_ret2
      exact ⟨rfl, rfl⟩

set_option maxHeartbeats 3200000 in
set_option maxRecDepth 100000 in
theorem decode_p (A : Option Addr) (n c : Nat) (bs : List Nat) (w : World) (hb : Sl w A n c (nats .u8 bs)) (hbs : ∀ x ∈ bs, x < 256) (hn : n ≤ 100000) :
    Calls Try.prog 30 #[.slice A n c] w fun e w' => e = .returned (.tuple #[postV (decS bs).1, .int .i64 ((decS bs).2 : Int)]) ∧ Below w.heap.size w w' := by
  obtain ⟨j0, hj, hy0, hy1, hy2⟩ := info_parts Try.info61
  have hlen := hb.len
  rw [nats_length] at hlen
  have hin := parS_in bs hbs
  rw [hlen] at hin
  have hp1 := fun w h => parse_p A n c bs w h hbs (by omega)
  unfold decS
  generalize parS bs = R at hin hp1
  obtain ⟨fs, er⟩ := R
  dsimp only at hin ⊢
  have Hb := Lib.hid hb
  have Hp1 := Lib.hid hp1
  have Hin := Lib.hid hin
  clear hb hbs hlen hp1 hin
  by_cases her : er = 0
  · subst her
    rw [if_neg (by simp)]
    have hfew := Hin.out.2
    have u1 := uOf_lt fs 1 0 fun f hf => (Hin.out.1 f hf).u
    have u2 := uOf_lt fs 2 0 fun f hf => (Hin.out.1 f hf).u
    have u3 := uOf_lt fs 3 0 fun f hf => (Hin.out.1 f hf).u
    have u5 := uOf_lt fs 5 0 fun f hf => (Hin.out.1 f hf).u
    have ht8 : ∀ x ∈ bOf (lastF fs 8000 2), x < 256 := bOf_b fs 8000 2 fun f hf => (Hin.out.1 f hf).b
    have K2 : ∀ F m cF ps w, Flds w F m cF ps → ps.map FA.f = fs → Calls Try.prog 17 #[.slice F m cF, .int .i64 8000] w fun e W' => ∃ B cB m, e = .returned (.tuple #[.slice B m cB, .bool (lastF fs 8000 2).isSome]) ∧ m = (bOf (lastF fs 8000 2)).length ∧ Txt W' B cB (bOf (lastF fs 8000 2)) ∧ Below w.heap.size w W' := fun F m cF ps w h he => by
      have := text_p F m cF ps 8000 w h (by have := flds_len' h he; omega) (fun p hp => by have := (Hin.out.1 p.f (by rw [← he]; exact List.mem_map_of_mem hp)).bl; omega)
      rw [he] at this; exact this
    have K : ∀ (num : Int) F m cF ps w, Flds w F m cF ps → ps.map FA.f = fs → Calls Try.prog 13 #[.slice F m cF, .int .i64 num] w fun e W' => e = .returned (.tuple #[.int .u64 ((uOf (lastF fs num 0) : Nat) : Int), .bool (lastF fs num 0).isSome]) ∧ Below w.heap.size w W' := fun num F m cF ps w h he => by
      have := uint_p F m cF ps num w h (by have := flds_len' h he; omega)
      rw [he] at this; exact this
    have H2 := Lib.hid K2
    have H3 := Lib.hid (K 1)
    have H4 := Lib.hid (K 2)
    have H5 := Lib.hid (K 3)
    have H6 := Lib.hid (K 5)
    clear K2 K
    generalize hR : decF fs = R
    unfold decF at hR
    generalize uOf (lastF fs 1 0) = f1 at *
    generalize uOf (lastF fs 2 0) = f2 at *
    generalize uOf (lastF fs 3 0) = f3 at *
    generalize uOf (lastF fs 5 0) = f5 at *
    generalize (lastF fs 1 0).isSome = i1 at *
    generalize (lastF fs 2 0).isSome = i2 at *
    generalize (lastF fs 3 0).isSome = i3 at *
    generalize (lastF fs 5 0).isSome = i5 at *
    generalize bOf (lastF fs 8000 2) = tb at *
    generalize (lastF fs 8000 2).isSome = i8 at *
    have Ht8 := Lib.hid ht8
    have HR := Lib.hid hR
    clear ht8 Hin hR
    go_enter Try.func30, Try.ntmps30
    go_wp2_with fail
    refine (Hp1.out _ (Hb.out.keep (below_new _ _))).mono ?_
    rintro e w1 ⟨F1, m1, cF1, ps1, rfl, hfl1, hps1, b1⟩
    dsimp only at hps1
    have Hps1 := Lib.hid hps1
    have Hfl1 := Lib.hid hfl1
    have B1 := Lib.hid b1
    clear hps1 hfl1 b1 Hp1
    go_wp2_with fail
    refine (H2.out _ _ _ _ w1 Hfl1.out Hps1.out).mono ?_
    rintro e w2 ⟨T2, tc2, tl, rfl, htl, t2, b2⟩
    subst htl
    have Ht2 := Lib.hid t2
    have Hfl2 := Lib.hid (Hfl1.out.keep b2)
    have B2 := Lib.hid (below_trans' B1.out b2)
    generalize htl : tb.length = tl at *
    have Htl := Lib.hid htl
    clear t2 b2 htl
    go_wp2_with fail
    refine (H3.out _ _ _ _ w2 Hfl2.out Hps1.out).mono ?_
    rintro e w3 ⟨rfl, b3⟩
    have Hfl3 := Lib.hid (Hfl2.out.keep b3)
    have B3 := Lib.hid (below_trans' B2.out b3)
    have Ht3 := Lib.hid (Ht2.out.keep b3)
    clear b3
    go_wp2_with fail
    refine (H4.out _ _ _ _ w3 Hfl3.out Hps1.out).mono ?_
    rintro e w4 ⟨rfl, b4⟩
    have Hfl4 := Lib.hid (Hfl3.out.keep b4)
    have B4 := Lib.hid (below_trans' B3.out b4)
    have Ht4 := Lib.hid (Ht3.out.keep b4)
    clear b4
    go_wp2_with fail
    refine (H5.out _ _ _ _ w4 Hfl4.out Hps1.out).mono ?_
    rintro e w5 ⟨rfl, b5⟩
    have Hfl5 := Lib.hid (Hfl4.out.keep b5)
    have B5 := Lib.hid (below_trans' B4.out b5)
    have Ht5 := Lib.hid (Ht4.out.keep b5)
    clear b5
    go_wp2_with fail
    refine (H6.out _ _ _ _ w5 Hfl5.out Hps1.out).mono ?_
    rintro e w6 ⟨rfl, b6⟩
    have B6 := Lib.hid (below_trans' B5.out b6)
    have t6 := (Ht5.out.keep b6).sl
    rw [Htl.out] at t6
    have q1 := run_convert_sl (P := Try.prog) Try.underlying22 Try.underlying5 Try.underlying9 t6
    have HbA : Hid (w6.heap[w.heap.size]? = some (.cells #[.int .i64 0, .int .i64 0, .int .i64 0, .int .i64 0] 61 (0, 0))) := Lib.hid ((B6.out.block _ (by simp)).trans (heap_alloc_new w _))
    have Hbel : Hid (Below w.heap.size w w6) := Lib.hid (((Below.refl _ _).alloc (Nat.le_refl _) _).trans (B6.out.mono (by simp)))
    clear b6 t6 H2 H3 H4 H5 H6
    go_wp2_with fail
    refine (codec_p f2 _ u2).mono ?_
    rintro e w7 ⟨rfl, rfl⟩
    by_cases hmg : tb = magicB
    · subst hmg
      rw [magic_str] at q1
      cases i1 with
      | false =>
        have hr := HR.out
        rw [if_pos (.inr rfl)] at hr
        subst hr
        go_wp2_with (refine wpList_store_row rfl 61 (.tmp 2) (.tmp 65) rfl w.heap.size #[.int .i64 0, .int .i64 0, .int .i64 0, .int .i64 0] rfl rfl 61 _ HbA.out ?e11 ?e12 ?e13 ?_)
        all_goals first
          | (case e13 => first | rfl | simp [Value.oneCell'])
          | (case e11 => first | kernel_rfl | exact ⟨j0, hj, hy1⟩)
          | (case e12 => rfl)
          | skip
        refine bodyPost_ret (results_cell_row2 rfl _ _ w.heap.size _ _ (0, 0) _ rfl (setRow_heap _ _ _ _ _ _ HbA.out) Try.underlying61 rfl (by kernel_rfl)) rfl ?_
        exact ⟨by first | rfl | simp [postV, PostV.zero], Below.setRow' Hbel.out (Nat.le_refl _) _⟩
      | true =>
        by_cases hl1 : 65536 < f1
        · skip
          have hr := HR.out
          rw [if_neg (by simp), if_pos (.inl hl1)] at hr
          subst hr
          go_wp2_with (refine wpList_store_row rfl 61 (.tmp 2) (.tmp 73) rfl w.heap.size #[.int .i64 0, .int .i64 0, .int .i64 0, .int .i64 0] rfl rfl 61 _ HbA.out ?e21 ?e22 ?e23 ?_)
          all_goals first
            | (case e23 => first | rfl | simp [Value.oneCell'])
            | (case e21 => first | kernel_rfl | exact ⟨j0, hj, hy1⟩)
            | (case e22 => rfl)
            | skip
          refine bodyPost_ret (results_cell_row2 rfl _ _ w.heap.size _ _ (0, 0) _ rfl (setRow_heap _ _ _ _ _ _ HbA.out) Try.underlying61 rfl (by kernel_rfl)) rfl ?_
          exact ⟨by first | rfl | simp [postV, PostV.zero], Below.setRow' Hbel.out (Nat.le_refl _) _⟩
        · by_cases hl5 : 65536 < f5
          · skip
            have hr := HR.out
            rw [if_neg (by simp), if_pos (.inr hl5)] at hr
            subst hr
            go_wp2_with (refine wpList_store_row rfl 61 (.tmp 2) (.tmp 73) rfl w.heap.size #[.int .i64 0, .int .i64 0, .int .i64 0, .int .i64 0] rfl rfl 61 _ HbA.out ?e31 ?e32 ?e33 ?_)
            all_goals first
              | (case e33 => first | rfl | simp [Value.oneCell'])
              | (case e31 => first | kernel_rfl | exact ⟨j0, hj, hy1⟩)
              | (case e32 => rfl)
              | skip
            refine bodyPost_ret (results_cell_row2 rfl _ _ w.heap.size _ _ (0, 0) _ rfl (setRow_heap _ _ _ _ _ _ HbA.out) Try.underlying61 rfl (by kernel_rfl)) rfl ?_
            exact ⟨by first | rfl | simp [postV, PostV.zero], Below.setRow' Hbel.out (Nat.le_refl _) _⟩
          · have hno : ¬ (65536 < f1 ∨ 65536 < f5) := by omega
            by_cases h0 : f2 = 0
            · subst h0
              clear u2
              have hr := HR.out
              rw [if_neg (by simp), if_neg hno, if_neg (by simp), if_pos rfl] at hr
              subst hr
              go_wp2_with (refine wpList_store_row rfl 61 (.tmp 2) (.tmp 97) rfl w.heap.size #[.int .i64 (f1 : Int), .int .i64 0, .int .i64 0, .int .i64 (f5 : Int)] rfl rfl 61 _ HbA.out ?e41 ?e42 ?e43 ?_)
              all_goals first
                | (case e43 => first | rfl | simp [Value.oneCell'])
                | (case e41 => first | kernel_rfl | exact ⟨j0, hj, hy1⟩)
                | (case e42 => rfl)
                | skip
              refine bodyPost_ret (results_cell_row2 rfl _ _ w.heap.size _ _ (0, 0) _ rfl (setRow_heap _ _ _ _ _ _ HbA.out) Try.underlying61 rfl (by kernel_rfl)) rfl ?_
              exact ⟨by first | rfl | simp [postV, PostV.zero], Below.setRow' Hbel.out (Nat.le_refl _) _⟩
            · by_cases h4 : f2 = 4
              · subst h4
                by_cases hs : f3 < 64
                · skip
                  have hr := HR.out
                  rw [if_neg (by simp), if_neg hno, if_neg (by simp), if_neg (by decide), if_pos (.inl hs)] at hr
                  subst hr
                  go_wp2_with (refine wpList_store_row rfl 61 (.tmp 2) (.tmp 88) rfl w.heap.size #[.int .i64 0, .int .i64 0, .int .i64 0, .int .i64 0] rfl rfl 61 _ HbA.out ?e51 ?e52 ?e53 ?_)
                  all_goals first
                    | (case e53 => first | rfl | simp [Value.oneCell'])
                    | (case e51 => first | kernel_rfl | exact ⟨j0, hj, hy1⟩)
                    | (case e52 => rfl)
                    | skip
                  refine bodyPost_ret (results_cell_row2 rfl _ _ w.heap.size _ _ (0, 0) _ rfl (setRow_heap _ _ _ _ _ _ HbA.out) Try.underlying61 rfl (by kernel_rfl)) rfl ?_
                  exact ⟨by first | rfl | simp [postV, PostV.zero], Below.setRow' Hbel.out (Nat.le_refl _) _⟩
                · by_cases hs2 : 65536 < f3
                  · skip
                    have hr := HR.out
                    rw [if_neg (by simp), if_neg hno, if_neg (by simp), if_neg (by decide), if_pos (.inr hs2)] at hr
                    subst hr
                    go_wp2_with (refine wpList_store_row rfl 61 (.tmp 2) (.tmp 88) rfl w.heap.size #[.int .i64 0, .int .i64 0, .int .i64 0, .int .i64 0] rfl rfl 61 _ HbA.out ?e61 ?e62 ?e63 ?_)
                    all_goals first
                      | (case e63 => first | rfl | simp [Value.oneCell'])
                      | (case e61 => first | kernel_rfl | exact ⟨j0, hj, hy1⟩)
                      | (case e62 => rfl)
                      | skip
                    refine bodyPost_ret (results_cell_row2 rfl _ _ w.heap.size _ _ (0, 0) _ rfl (setRow_heap _ _ _ _ _ _ HbA.out) Try.underlying61 rfl (by kernel_rfl)) rfl ?_
                    exact ⟨by first | rfl | simp [postV, PostV.zero], Below.setRow' Hbel.out (Nat.le_refl _) _⟩
                  · skip
                    clear u2
                    have hr := HR.out
                    rw [if_neg (by simp), if_neg hno, if_neg (by simp), if_neg (by decide), if_neg (by omega)] at hr
                    subst hr
                    go_wp2_with (refine wpList_store_row rfl 61 (.tmp 2) (.tmp 97) rfl w.heap.size #[.int .i64 (f1 : Int), .int .i64 4, .int .i64 (f3 : Int), .int .i64 (f5 : Int)] rfl rfl 61 _ HbA.out ?e71 ?e72 ?e73 ?_)
                    all_goals first
                      | (case e73 => first | rfl | simp [Value.oneCell'])
                      | (case e71 => first | kernel_rfl | exact ⟨j0, hj, hy1⟩)
                      | (case e72 => rfl)
                      | skip
                    refine bodyPost_ret (results_cell_row2 rfl _ _ w.heap.size _ _ (0, 0) _ rfl (setRow_heap _ _ _ _ _ _ HbA.out) Try.underlying61 rfl (by kernel_rfl)) rfl ?_
                    exact ⟨by first | rfl | simp [postV, PostV.zero], Below.setRow' Hbel.out (Nat.le_refl _) _⟩
              · have g0 : (f2 == 0) = false := beq_eq_false_iff_ne.2 h0
                have g4 : (f2 == 4) = false := beq_eq_false_iff_ne.2 h4
                have hr := HR.out
                rw [if_neg (by simp), if_neg hno, if_pos ⟨h0, h4⟩] at hr
                subst hr
                go_wp2_with (refine wpList_store_row rfl 61 (.tmp 2) (.tmp 77) rfl w.heap.size #[.int .i64 0, .int .i64 0, .int .i64 0, .int .i64 0] rfl rfl 61 _ HbA.out ?e81 ?e82 ?e83 ?_)
                all_goals first
                  | (case e83 => first | rfl | simp [Value.oneCell'])
                  | (case e81 => first | kernel_rfl | exact ⟨j0, hj, hy1⟩)
                  | (case e82 => rfl)
                  | skip
                refine bodyPost_ret (results_cell_row2 rfl _ _ w.heap.size _ _ (0, 0) _ rfl (setRow_heap _ _ _ _ _ _ HbA.out) Try.underlying61 rfl (by kernel_rfl)) rfl ?_
                exact ⟨by first | rfl | simp [postV, PostV.zero], Below.setRow' Hbel.out (Nat.le_refl _) _⟩
    · have hms : (strOf tb).toList ≠ [79, 82, 67] := fun e => hmg (strOf_list_inj tb magicB Ht8.out (by decide) (e.trans magic_list.symm))
      have hmt : ((strOf tb).toList == [79, 82, 67]) = false := beq_eq_false_iff_ne.2 hms
      generalize strOf tb = str at *
      have hr := HR.out
      rw [if_pos (.inl hmg)] at hr
      subst hr
      go_wp2_with (refine wpList_store_row rfl 61 (.tmp 2) (.tmp 65) rfl w.heap.size #[.int .i64 0, .int .i64 0, .int .i64 0, .int .i64 0] rfl rfl 61 _ HbA.out ?e91 ?e92 ?e93 ?_)
      all_goals first
        | (case e93 => first | rfl | simp [Value.oneCell'])
        | (case e91 => first | kernel_rfl | exact ⟨j0, hj, hy1⟩)
        | (case e92 => rfl)
        | skip
      refine bodyPost_ret (results_cell_row2 rfl _ _ w.heap.size _ _ (0, 0) _ rfl (setRow_heap _ _ _ _ _ _ HbA.out) Try.underlying61 rfl (by kernel_rfl)) rfl ?_
      exact ⟨by first | rfl | simp [postV, PostV.zero], Below.setRow' Hbel.out (Nat.le_refl _) _⟩
  · rw [if_pos her]
    have hne : ((er : Int) != 0) = true := by simp; omega
    go_enter Try.func30, Try.ntmps30
    go_wp2_with fail
    refine (Hp1.out _ (Hb.out.keep (below_new _ _))).mono ?_
    rintro e w1 ⟨F1, m1, cF1, ps1, rfl, hfl1, hps1, b1⟩
    have HbA : Hid (w1.heap[w.heap.size]? = some (.cells #[.int .i64 0, .int .i64 0, .int .i64 0, .int .i64 0] 61 (0, 0))) := Lib.hid ((b1.block _ (by simp)).trans (heap_alloc_new w _))
    have Hbel : Hid (Below w.heap.size w w1) := Lib.hid (((Below.refl _ _).alloc (Nat.le_refl _) _).trans (b1.mono (by simp)))
    have HR : Hid ((PostV.zero, er) = (PostV.zero, er)) := Lib.hid rfl
    clear hfl1 hps1 b1
    have hr := HR.out
    skip
    clear hr
    go_wp2_with (refine wpList_store_row rfl 61 (.tmp 2) (.tmp 25) rfl w.heap.size #[.int .i64 0, .int .i64 0, .int .i64 0, .int .i64 0] rfl rfl 61 _ HbA.out ?e101 ?e102 ?e103 ?_)
    all_goals first
      | (case e103 => first | rfl | simp [Value.oneCell'])
      | (case e101 => first | kernel_rfl | exact ⟨j0, hj, hy1⟩)
      | (case e102 => rfl)
      | skip
    refine bodyPost_ret (results_cell_row2 rfl _ _ w.heap.size _ _ (0, 0) _ rfl (setRow_heap _ _ _ _ _ _ HbA.out) Try.underlying61 rfl (by kernel_rfl)) rfl ?_
    exact ⟨by first | rfl | simp [postV, PostV.zero], Below.setRow' Hbel.out (Nat.le_refl _) _⟩
end Go.Proofs.Ytihclbiohljmlaa
