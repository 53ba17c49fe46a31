/- RunsRows: the walk. -/
import Derived.Test.YtehcbgnoiogncaaRunREnc
namespace Go.Proofs.Ytehcbgnoiogncaa
open Go.RowKit
open PackMath
set_option linter.unusedVariables false

theorem Sl.most {w : World} {A : Option Addr} {n c : Nat} {xs : List Value} (h : Sl w A n c xs) : (n : Int) ≤ 9223372036854775807 := by
  have h1 := h.le
  have h2 := h.max
  unfold maxLen at h2
  omega
theorem Sl.front {w : World} {A : Option Addr} {n c : Nat} {xs : List Value} (h : Sl w A n c xs) (k : Nat) (hk : k ≤ n) : Sl w A k c (xs.take k) := by
  have hl := h.len
  refine ⟨by rw [List.length_take]; omega, Nat.le_trans hk h.le, h.max, h.nil, fun ad hA j u hu => ?_, fun u hu => h.one u (List.mem_of_mem_take hu)⟩
  rw [List.getElem?_take] at hu
  split at hu
  · exact h.cells ad hA j u hu
  · cases hu
set_option maxHeartbeats 3200000 in
set_option maxRecDepth 4000 in
theorem rows_in (A : Option Addr) (n c : Nat) (a : List Int) (A' : Option Addr) (n' c' : Nat) (b : List Int) (A'' : Option Addr) (n'' c'' : Nat) (d : List Int) (w : World) (ha : Sl w A n c (ints .i64 a)) (hb : Sl w A' n' c' (ints .i64 b)) (hd : Sl w A'' n'' c'' (ints .i64 d))
    (hIa : ∀ v ∈ a, InI v) (hIb : ∀ v ∈ b, InI v) (hId : ∀ v ∈ d, InI v) (hn : n ≤ 700) (hn' : n' ≤ 700) (hn'' : n'' ≤ 700) :
    Calls Try.prog 7 #[.slice A n c, .slice A' n' c', .slice A'' n'' c''] w fun e w' => e = .returned (.bool true) ∧ Below w.heap.size w w' := by
  have hla := ha.len
  have hlb := hb.len
  have hld := hd.len
  rw [ints_length] at hla hlb hld
  have hlaw := rows_law a b d hIa hIb hId (by omega)
  rw [hla, hlb, hld] at hlaw
  have Hlaw := Lib.hid hlaw
  have Ha := Lib.hid ha
  have Hb := Lib.hid hb
  have Hd := Lib.hid hd
  have HIa := Lib.hid hIa
  have HIb := Lib.hid hIb
  have HId := Lib.hid hId
  have HLa := Lib.hid (show (encS true a).length ≤ 1000000 from by rw [encS_len, hla]; omega)
  have HLb := Lib.hid (show (encS true b).length ≤ 1000000 from by rw [encS_len, hlb]; omega)
  have HLd := Lib.hid (show (encS true d).length ≤ 1000000 from by rw [encS_len, hld]; omega)
  have h8 : ∀ x ∈ encS true a ++ encS true b ++ encS true d, x < 256 := fun x hx => by
    rcases List.mem_append.1 hx with hx | hx
    · rcases List.mem_append.1 hx with hx | hx
      · exact encS_byte _ _ x hx
      · exact encS_byte _ _ x hx
    · exact encS_byte _ _ x hx
  have H8 := Lib.hid h8
  have Hall := Lib.hid (show (a ++ b ++ d).length = n + n' + n'' from by rw [List.length_append, List.length_append, hla, hlb, hld])
  have HE0 := Lib.hid (show 1 ≤ n + n' + n'' → 1 ≤ (encS true a ++ encS true b ++ encS true d).length from fun h => by rw [List.length_append, List.length_append, encS_len, encS_len, encS_len, hla, hlb, hld]; omega)
  obtain ⟨ea, hea⟩ : ∃ ea, encS true a = ea := ⟨_, rfl⟩
  obtain ⟨eb, heb⟩ : ∃ eb, encS true b = eb := ⟨_, rfl⟩
  obtain ⟨ed, hed⟩ : ∃ ed, encS true d = ed := ⟨_, rfl⟩
  have Ra := Lib.hid (fun W (h : Sl W A n c (ints .i64 a)) => renc9 A n c a true W h hIa (by omega))
  have Rb := Lib.hid (fun W (h : Sl W A' n' c' (ints .i64 b)) => renc9 A' n' c' b true W h hIb (by omega))
  have Rd := Lib.hid (fun W (h : Sl W A'' n'' c'' (ints .i64 d)) => renc9 A'' n'' c'' d true W h hId (by omega))
  rw [hea] at Ra
  rw [heb] at Rb
  rw [hed] at Rd
  rw [hea, heb, hed] at Hlaw H8 HE0
  rw [hea] at HLa
  rw [heb] at HLb
  rw [hed] at HLd
  clear ha hb hd hIa hIb hId hlaw h8 hla hlb hld hea heb hed
  obtain ⟨i0, hi, hz0, hz1, hz2⟩ := info_parts Try.info5
  obtain ⟨j0, hj, hy0, hy1, hy2⟩ := info_parts Try.info2
  have q1 : decide ((700 : Int) < (n : Int)) = false := decide_eq_false (by omega)
  have q2 : decide ((700 : Int) < (n' : Int)) = false := decide_eq_false (by omega)
  have q3 : decide ((700 : Int) < (n'' : Int)) = false := decide_eq_false (by omega)
  go_enter Try.func7, Try.ntmps7
  go_wp2_with fail
  refine (known9 _).mono ?_
  rintro e w1 ⟨rfl, b1⟩
  have B1 := Lib.hid b1
  clear b1
  go_wp2_with fail
  refine (Ra.out w1 (Ha.out.keep B1.out)).mono ?_
  rintro e w2 ⟨v2, rfl, o2, b2⟩
  have la := HLa.out
  have lb := HLb.out
  have ld := HLd.out
  have O2 := Lib.hid o2
  have B2 := Lib.hid b2
  clear o2 b2
  go_wp2_with fail
  refine (Rb.out w2 ((Hb.out.keep B1.out).keep B2.out)).mono ?_
  rintro e w3 ⟨v3, rfl, o3, b3⟩
  obtain ⟨A3, c3, rfl, s3⟩ := Sl.of_own o3 (nats_one _ _)
  have S3 := Lib.hid s3
  have O23 := Lib.hid (World.ownsRow.below O2.out b3)
  have B3 := Lib.hid (below_trans' B2.out b3)
  have hz3 : w1.heap.size ≤ w3.heap.size := B3.out.size
  clear o3 s3 b3
  go_wp2_with (at_builtin; refine wpList_append_sl rfl _ _ 29 rfl w1.heap.size 5 i0 (.int .u8 0) 1 Try.underlying29 hi hz0 hz1 hz2 rfl _ ea.length _ rfl O23.out A3 eb.length c3 _ rfl S3.out ?c1 ?c2 hz3 ?_)
  case c1 => unfold maxLen; omega
  case c2 => omega
  intro v4 w4 o4 b4 _ _
  rw [← nats_append] at o4
  have O4 := Lib.hid o4
  have B4 := Lib.hid (B3.out.trans b4)
  clear o4 b4
  go_wp2_with fail
  refine (Rd.out w4 ((Hd.out.keep B1.out).keep B4.out)).mono ?_
  rintro e w5 ⟨v5, rfl, o5, b5⟩
  obtain ⟨A5, c5, rfl, s5⟩ := Sl.of_own o5 (nats_one _ _)
  have S5 := Lib.hid s5
  have O45 := Lib.hid (World.ownsRow.below O4.out b5)
  have B5 := Lib.hid (below_trans' B4.out b5)
  have hz5 : w1.heap.size ≤ w5.heap.size := B5.out.size
  clear o5 s5 b5
  go_wp2_with (at_builtin; refine wpList_append_sl rfl _ _ 29 rfl w1.heap.size 5 i0 (.int .u8 0) 1 Try.underlying29 hi hz0 hz1 hz2 rfl _ (ea.length + eb.length) _ rfl O45.out A5 ed.length c5 _ rfl S5.out ?d1 ?d2 hz5 ?_)
  case d1 => unfold maxLen; omega
  case d2 => omega
  intro v6 w6 o6 b6 _ _
  rw [← nats_append] at o6
  obtain ⟨A6, c6, rfl, s6⟩ := Sl.of_own o6 (nats_one _ _)
  have S6 := Lib.hid s6
  have B6 := Lib.hid (below_trans' B1.out (B5.out.trans b6))
  have hl6 : (ea ++ eb ++ ed).length = ea.length + eb.length + ed.length := by rw [List.length_append, List.length_append]
  obtain ⟨L, hL⟩ : ∃ L, L = ea.length + eb.length + ed.length := ⟨_, rfl⟩
  rw [← hL] at hl6 S6 ⊢
  have hLb : L ≤ 3000000 := by omega
  obtain ⟨X, hX⟩ : ∃ X, ea ++ eb ++ ed = X := ⟨_, rfl⟩
  rw [hX] at hl6 S6 Hlaw H8 HE0
  have HLX := Lib.hid hl6
  clear o6 s6 b6 hL hl6 hX la lb ld HLa HLb HLd
  have ho : (w6.alloc (.cells #[] 2)).ownsRow w6.heap.size 2 1 (.slice (some ⟨w6.heap.size, 0, none⟩) 0 0) 0 [] := World.ownsRow_made w6 #[] 0 (Nat.le_refl _) (by decide) rfl
  have Ho := Lib.hid ho
  have B7 := Lib.hid (below_new w6 (.cells #[] 2))
  have hz7 : w6.heap.size ≤ (w6.alloc (.cells #[] 2)).heap.size := by simp
  clear ho
  go_wp2_with (at_builtin; refine wpList_append_sl rfl _ _ 25 rfl w6.heap.size 2 j0 (.int .i64 0) 8 Try.underlying25 hj hy0 hy1 hy2 rfl _ 0 _ rfl Ho.out A n c _ rfl ((Ha.out.keep B6.out).keep B7.out) ?e1 ?e2 hz7 ?_)
  case e1 => unfold maxLen; omega
  case e2 => omega
  intro v8 w8 o8 b8 _ _
  have O8 := Lib.hid o8
  have B8 := Lib.hid (B7.out.trans b8)
  have hz8 : w6.heap.size ≤ w8.heap.size := B8.out.size
  clear o8 b8
  go_wp2_with (at_builtin; refine wpList_append_sl rfl _ _ 25 rfl w6.heap.size 2 j0 (.int .i64 0) 8 Try.underlying25 hj hy0 hy1 hy2 rfl _ n _ rfl O8.out A' n' c' _ rfl ((Hb.out.keep B6.out).keep B8.out) ?f1 ?f2 hz8 ?_)
  case f1 => unfold maxLen; omega
  case f2 => omega
  intro v9 w9 o9 b9 _ _
  have O9 := Lib.hid o9
  have B9 := Lib.hid (B8.out.trans b9)
  have hz9 : w6.heap.size ≤ w9.heap.size := B9.out.size
  clear o9 b9
  go_wp2_with (at_builtin; refine wpList_append_sl rfl _ _ 25 rfl w6.heap.size 2 j0 (.int .i64 0) 8 Try.underlying25 hj hy0 hy1 hy2 rfl _ (n + n') _ rfl O9.out A'' n'' c'' _ rfl ((Hd.out.keep B6.out).keep B9.out) ?g1 ?g2 hz9 ?_)
  case g1 => unfold maxLen; omega
  case g2 => omega
  intro vA wA oA bA _ _
  have hall : ints .i64 a ++ (ints .i64 b ++ ints .i64 d) = ints .i64 (a ++ b ++ d) := by simp [ints]
  rw [hall] at oA
  obtain ⟨AA, cA, rfl, sA⟩ := Sl.of_own oA (ints_one _ _)
  obtain ⟨N, hN⟩ : ∃ N, N = n + n' + n'' := ⟨_, rfl⟩
  rw [← hN] at sA Hlaw HE0 Hall ⊢
  have hNb : N ≤ 2100 := by omega
  have SA := Lib.hid sA
  have BA := Lib.hid (below_trans' B6.out (B9.out.trans bA))
  have SX := Lib.hid (S6.out.keep (B9.out.trans bA))
  have hdec := decode_p A6 L c6 X (N : Int) true wA SX.out H8.out (by omega)
  rw [Hlaw.out.1] at hdec
  have Hdec := Lib.hid hdec
  clear oA sA bA hN hall hdec
  go_wp2_with fail
  refine Hdec.out.mono ?_
  rintro e wB ⟨AB, cB, rfl, sB, bB⟩
  dsimp only at sB ⊢
  rw [Hall.out] at sB ⊢
  have SB := Lib.hid sB
  have BB := Lib.hid (below_trans' BA.out bB)
  have SAB := Lib.hid (SA.out.keep bB)
  have SXB := Lib.hid (SX.out.keep bB)
  clear sB bB
  go_wp2_with fail
  refine (sameI_yes _ _ _ _ _ _ wB SB.out SAB.out (by omega)).mono ?_
  rintro e wC ⟨rfl, bC⟩
  have BC := Lib.hid (below_trans' BB.out bC)
  have SXC := Lib.hid (SXB.out.keep bC)
  clear bC
  by_cases hN0 : N = 0
  · subst hN0
    go_wp2_with fail
    go_ret
    exact ⟨rfl, BC.out⟩
  · have q4 : ((N : Int) == 0) = false := beq_eq_false_iff_ne.2 (by omega)
    have hL1 : 1 ≤ L := by have := HE0.out (by omega); rw [HLX.out] at this; exact this
    have e1 : (L : Int) - 1 = ((L - 1 : Nat) : Int) := by omega
    have E1 := Lib.hid e1
    have SF := Lib.hid (show Sl wC A6 (L - 1) c6 (nats .u8 X.dropLast) from by
      have := SXC.out.front (L - 1) (by omega)
      have e : (nats .u8 X).take (L - 1) = nats .u8 X.dropLast := by unfold nats; rw [← List.map_take, List.dropLast_eq_take, HLX.out]
      rwa [e] at this)
    have hle6 : L ≤ c6 := SXC.out.le
    have hdec2 := decode_p A6 (L - 1) c6 _ (N : Int) true wC SF.out (fun x hx => H8.out x (List.dropLast_subset _ hx)) (by omega)
    rw [Hlaw.out.2.1 (by omega)] at hdec2
    have Hdec2 := Lib.hid hdec2
    obtain ⟨bx, ox, rfl, hbx, _⟩ := SXC.out.at_ (by omega)
    clear e1 hdec2
    go_wp2_with fail
    refine Hdec2.out.mono ?_
    rintro e wD ⟨AD, cD, rfl, sD, bD⟩
    dsimp only [List.length_nil] at sD ⊢
    have BD := Lib.hid (below_trans' BC.out bD)
    have SXD := Lib.hid (SXC.out.keep bD)
    clear sD bD Hdec2 Hdec SF
    have ho : (wD.alloc (.cells #[] 5)).ownsRow wD.heap.size 5 1 (.slice (some ⟨wD.heap.size, 0, none⟩) 0 0) 0 [] := World.ownsRow_made wD #[] 0 (Nat.le_refl _) (by decide) rfl
    have Ho2 := Lib.hid ho
    have BE := Lib.hid (below_new wD (.cells #[] 5))
    have hzE : wD.heap.size ≤ (wD.alloc (.cells #[] 5)).heap.size := by simp
    clear ho
    go_wp2_with (at_builtin; refine wpList_append_sl rfl _ _ 29 rfl wD.heap.size 5 i0 (.int .u8 0) 1 Try.underlying29 hi hz0 hz1 hz2 rfl _ 0 _ rfl Ho2.out (some ⟨bx, ox, none⟩) L c6 _ rfl (SXD.out.keep BE.out) ?h1 ?h2 hzE ?_)
    case h1 => unfold maxLen; omega
    case h2 => omega
    intro vF wF oF bF _ _
    have OF := Lib.hid oF
    have BF := Lib.hid (BE.out.trans bF)
    have hzF : wD.heap.size ≤ wF.heap.size := BF.out.size
    clear oF bF
    go_wp2_with (at_builtin; refine wpList_append_sl rfl _ _ 29 rfl wD.heap.size 5 i0 (.int .u8 0) 1 Try.underlying29 hi hz0 hz1 hz2 rfl _ L _ rfl (OF.out.alloc _) (some ⟨wF.heap.size, 0, none⟩) 1 1 [.int .u8 0] rfl (Sl.one_new wF (.int .u8 0) _ rfl) ?k1 ?k2 ?k3 ?_)
    case k1 => unfold maxLen; omega
    case k2 => omega
    case k3 => first | omega | (simp; omega)
    intro vG wG oG bG _ _
    have hcat : nats .u8 X ++ [Value.int .u8 0] = nats .u8 (X ++ [0]) := by rw [nats_append]; rfl
    rw [hcat] at oG
    obtain ⟨AG, cG, rfl, sG⟩ := Sl.of_own oG (nats_one _ _)
    have hdec3 := decode_p AG (L + 1) cG _ (N : Int) true wG sG (fun x hx => (List.mem_append.1 hx).elim (fun h => H8.out x h) (fun h => by simp at h; omega)) (by omega)
    rw [Hlaw.out.2.2] at hdec3
    have Hdec3 := Lib.hid hdec3
    have BG := Lib.hid (below_trans' BD.out ((BF.out.alloc hzF _).trans bG))
    clear oG bG sG hcat hdec3
    go_wp2_with fail
    refine Hdec3.out.mono ?_
    rintro e wH ⟨AH, cH, rfl, sH, bH⟩
    dsimp only [List.length_nil] at sH ⊢
    have BH := Lib.hid (below_trans' BG.out bH)
    clear sH bH
    go_wp2_with fail
    go_ret
    exact ⟨rfl, BH.out⟩
set_option maxHeartbeats 3200000 in
theorem law_RunsRows (A : Option Addr) (n c : Nat) (a : List Int) (A' : Option Addr) (n' c' : Nat) (b : List Int) (A'' : Option Addr) (n'' c'' : Nat) (d : List Int) (w : World) (ha : Sl w A n c (ints .i64 a)) (hIa : ∀ v ∈ a, -9223372036854775808 ≤ v ∧ v ≤ 9223372036854775807) (hb : Sl w A' n' c' (ints .i64 b)) (hIb : ∀ v ∈ b, -9223372036854775808 ≤ v ∧ v ≤ 9223372036854775807) (hd : Sl w A'' n'' c'' (ints .i64 d))
    (hId : ∀ v ∈ d, -9223372036854775808 ≤ v ∧ v ≤ 9223372036854775807) :
    Calls Try.prog 7 #[.slice A n c, .slice A' n' c', .slice A'' n'' c''] w fun e w' => e = .returned (.bool true) ∧ Below w.heap.size w w' := by
  by_cases h : n ≤ 700 ∧ n' ≤ 700 ∧ n'' ≤ 700
  · exact rows_in A n c a A' n' c' b A'' n'' c'' d w ha hb hd hIa hIb hId h.1 h.2.1 h.2.2
  · have m1 := ha.most
    have m2 := hb.most
    have m3 := hd.most
    have q : (decide ((700 : Int) < (n : Int)) || decide ((700 : Int) < (n' : Int)) || decide ((700 : Int) < (n'' : Int))) = true := by
      simp only [Bool.or_eq_true, decide_eq_true_eq]
      omega
    clear ha hb hd
    go_enter Try.func7, Try.ntmps7
    go_wp2_with fail
    refine (known9 _).mono ?_
    rintro e w1 ⟨rfl, b1⟩
    have B1 := Lib.hid b1
    clear b1
    go_wp2_with fail
    all_goals (go_ret; exact ⟨rfl, B1.out⟩)
end Go.Proofs.Ytehcbgnoiogncaa
