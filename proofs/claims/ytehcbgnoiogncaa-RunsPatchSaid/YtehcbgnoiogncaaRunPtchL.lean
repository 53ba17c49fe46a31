/- RunsPatch: the walk. (Printed by gen/runptchl.py.) -/
import Derived.Test.YtehcbgnoiogncaaRunPtchM
import Derived.Deep.DeepCutAuto
namespace Go.Proofs.Ytehcbgnoiogncaa
open Go.RowKit
open PackMath
set_option linter.unusedVariables false

theorem or_142 (e : Nat) (h : e < 2) : bits .or .i64 142 (e : Int) = ((142 + e : Nat) : Int) := by
  have : e = 0 ∨ e = 1 := by omega
  rcases this with rfl | rfl <;> decide
theorem or_64 (m : Nat) (h : m < 32) : bits .or .i64 64 (m : Int) = ((64 + m : Nat) : Int) := by
  have : ∀ m, m < 32 → bits .or .i64 64 ((m : Nat) : Int) = ((64 + m : Nat) : Int) := by decide +kernel
  exact this m h
theorem or_gp (g p : Nat) (hg : g < 8) (hp : p < 256) : bits .or .u64 ((g : Int) * 256) (p : Int) = ((g * 256 + p : Nat) : Int) := by
  have h := bits_or_u64 (g * 256) p (by omega) (by omega)
  rw [show ((g * 256 : Nat) : Int) = (g : Int) * 256 from by omega] at h
  rw [h, Nat.mul_comm g 256, ← Nat.two_pow_add_eq_or_of_lt (i := 8) hp g]
theorem or_wp (w p : Nat) (hw : w < 65536) (hp : p < 256) : bits .or .u64 (w : Int) ((p : Int) * 256) = ((w ||| p * 256 : Nat) : Int) := by
  have h := bits_or_u64 w (p * 256) (by omega) (by omega)
  rwa [show ((p * 256 : Nat) : Int) = (p : Int) * 256 from by omega] at h
theorem or_39 (b : Nat) (hb : b ≤ 4294967295) : bits .or .u64 (b : Int) 549755813888 = ((b + 549755813888 : Nat) : Int) := by
  have h := bits_or_u64 b 549755813888 (by omega) (by decide)
  have e := Nat.two_pow_add_eq_or_of_lt (i := 39) (b := b) (by omega) 1
  rw [show (549755813888 : Int) = ((549755813888 : Nat) : Int) from rfl, h, Nat.or_comm, show 549755813888 = 2 ^ 39 * 1 from rfl, ← e, Nat.add_comm]
theorem or_1 (x : Nat) (hx : x < 256) : bits .or .u64 (x : Int) 1 = ((x ||| 1 : Nat) : Int) ∧ x ||| 1 < 256 ∧ 1 ≤ x ||| 1 :=
  ⟨bits_or_u64 x 1 (by omega) (by decide), Nat.or_lt_two_pow (n := 8) hx (by decide), Nat.right_le_or⟩
theorem and_7_u8 (x : Nat) (hx : x < 256) : bits .and .u8 (x : Int) 7 = ((x % 8 : Nat) : Int) := by
  have := bits_and_u8 x 7 hx (by decide)
  rw [show (7 : Int) = ((7 : Nat) : Int) from rfl, this, show (7 : Nat) = 2 ^ 3 - 1 from rfl, Nat.and_two_pow_sub_one_eq_mod]


set_option maxHeartbeats 3200000 in
set_option maxRecDepth 4000 in
theorem patch_in_true (base : Nat) (A : Option Addr) (n c : Nat) (X : List Nat) (A' : Option Addr) (n' c' : Nat) (G : List Nat) (A'' : Option Addr) (n'' c'' : Nat) (P : List Nat) (w : World) (hb : base ≤ 4294967295)
    (hX : Sl w A n c (nats .u8 X)) (hG : Sl w A' n' c' (nats .u8 G)) (hP : Sl w A'' n'' c'' (nats .u8 P)) (hX8 : ∀ x ∈ X, x < 256) (hG8 : ∀ x ∈ G, x < 256) (hP8 : ∀ x ∈ P, x < 256)
    (hn1 : 1 ≤ n) (hn2 : n ≤ 512) (hn' : n' ≤ 31) (hn'' : n' ≤ n'') (hne : ((base : Int) == 0) = false) :
    Calls Try.prog 6 #[.int .u32 (base : Int), .bool true, .slice A n c, .slice A' n' c', .slice A'' n'' c''] w fun e w' => e = .returned (.bool true) ∧ Below w.heap.size w w' := by
  have hlX := hX.len
  have hlG := hG.len
  have hlP := hP.len
  rw [nats_length] at hlX hlG hlP
  have HX := Lib.hid hX
  have HG := Lib.hid hG
  have HP := Lib.hid hP
  have HX8 := Lib.hid hX8
  have HG8 := Lib.hid hG8
  have HP8 := Lib.hid hP8
  have HlX := Lib.hid hlX
  have HlG := Lib.hid hlG
  have HlP := Lib.hid hlP
  have hm : (n'' : Int) ≤ 9223372036854775807 := by
    have h1 := hP.le
    have h2 := hP.max
    unfold maxLen at h2
    omega
  clear hX hG hP hX8 hG8 hP8 hlX hlG hlP
  obtain ⟨j0, hj, hy0, hy1, hy2⟩ := info_parts Try.info26
  have q1 : ((n : Int) == 0) = false := beq_eq_false_iff_ne.2 (by omega)
  have q2 : decide ((512 : Int) < (n : Int)) = false := decide_eq_false (by omega)
  have q3 : decide ((31 : Int) < (n' : Int)) = false := decide_eq_false (by omega)
  have q4 : decide ((n'' : Int) < (n' : Int)) = false := decide_eq_false (by omega)
  have q6 : decide (n'' < n') = false := decide_eq_false (by omega)
  go_enter Try.func6, Try.ntmps6
  go_wp2_with fail
  refine (known9 _).mono ?_
  rintro e w1 ⟨rfl, b1⟩
  have B1 := Lib.hid b1
  have HX1 := Lib.hid (HX.out.keep b1)
  have HG1 := Lib.hid (HG.out.keep b1)
  have HP1 := Lib.hid (HP.out.keep b1)
  clear b1 HX HG HP
  go_wp2_with fail
  go_loopw [11, 12] (fun xv iv wr => ∃ (i : Nat) (A1 : Option Addr) (c1 : Nat), i ≤ n ∧ xv = .slice A1 i c1 ∧ iv = .int .i64 (i : Int) ∧ Hid (wr.ownsRow w1.heap.size 26 1 (.slice A1 i c1) i (nats .u64 (X.take i))) ∧ Hid (Below w1.heap.size w1 wr)) (fun _ iv _ => n - (intOf iv).toNat)
  case atStart => exact ⟨0, none, 0, Nat.zero_le _, rfl, rfl, Lib.hid (World.ownsRow_nil _ _ _ _), Lib.hid (Below.refl _ _)⟩
  case round =>
    obtain ⟨i, A1, c1, hin, rfl, rfl, Ho, Hbl⟩ := hrel
    have hsz := Hbl.out.size
    by_cases hlt : i < n
    · obtain ⟨b, off, rfl, hbw, hcell⟩ := HX1.out.at_ (by omega)
      have hcl := hcell i hlt
      rw [nats_getD _ _ _ (by rw [HlX.out]; exact hlt)] at hcl
      have hx8 : X.getD i 0 < 256 := by rw [getD_eq _ _ (by rw [HlX.out]; exact hlt)]; exact HX8.out _ (List.getElem_mem _)
      have Hts := Lib.hid (show X.take (i + 1) = X.take i ++ [X.getD i 0] from by rw [List.take_add_one, List.getElem?_eq_getElem (by rw [HlX.out]; exact hlt), getD_eq _ _ (by rw [HlX.out]; exact hlt)]; rfl)
      generalize X.getD i 0 = x at *
      have hcl2 := (Hbl.out.cell (p := ⟨b, off + i, none⟩) hbw).trans hcl
      clear hcell hcl
      go_wp2_with (at_builtin; refine wpList_append_sl rfl _ _ 22 rfl w1.heap.size 26 j0 (.int .u64 0) 8 Try.underlying22 hj hy0 hy1 hy2 rfl _ i _ rfl (Ho.out.alloc _) (some ⟨wr.heap.size, 0, none⟩) 1 1 [.int .u64 (x : Int)] rfl (Sl.one_new wr (.int .u64 (x : Int)) _ rfl) ?d1 ?d2 ?d3 ?_)
      case d1 => unfold maxLen; omega
      case d2 => omega
      case d3 => first | omega | (simp; omega)
      intro v7 w7 ho7 hb7 _ _
      obtain ⟨A7, c7, rfl, s7⟩ := Sl.of_own ho7 (fun u hu => (List.mem_append.1 hu).elim (nats_one _ _ u) (fun h => by simp at h; subst h; rfl))
      have H7 : Hid (w7.ownsRow w1.heap.size 26 1 (.slice A7 (i + 1) c7) (i + 1) (nats .u64 (X.take (i + 1)))) := by
        rw [Hts.out, nats_append]; exact ho7
      have Hb7 := Lib.hid ((Hbl.out.alloc hsz _).trans hb7)
      clear ho7 s7 hb7
      go_wp2_with fail
      exact ⟨⟨i + 1, A7, c7, by omega, rfl, by first | rfl | simp, H7, Hb7⟩, by simp only [intOf]; omega⟩
    · have hin' : i = n := by omega
      subst hin'
      clear hlt hin
      have SX := Lib.hid (show Sl wr A1 i c1 (nats .u64 X) from by
        have := Sl.of_own' Ho.out (nats_one _ _)
        rwa [List.take_of_length_le (by rw [HlX.out]; exact Nat.le_refl _)] at this)
      have B2 := Lib.hid (below_trans' B1.out Hbl.out)
      have HG2 := Lib.hid (HG1.out.keep Hbl.out)
      have HP2 := Lib.hid (HP1.out.keep Hbl.out)
      clear Ho Hbl HG1 HP1 HX1 hsz
      have ho : (wr.alloc (.cells #[] 26)).ownsRow wr.heap.size 26 1 (.slice (some ⟨wr.heap.size, 0, none⟩) 0 0) 0 [] := World.ownsRow_made wr #[] 0 (Nat.le_refl _) (by decide) rfl
      have Ho := Lib.hid ho
      have bn := Lib.hid (below_new wr (.cells #[] 26))
      have hzn : wr.heap.size ≤ (wr.alloc (.cells #[] 26)).heap.size := by simp
      clear ho
      go_wp2_with (at_builtin; refine wpList_append_sl rfl _ _ 22 rfl wr.heap.size 26 j0 (.int .u64 0) 8 Try.underlying22 hj hy0 hy1 hy2 rfl _ 0 _ rfl Ho.out A1 i c1 _ rfl (SX.out.keep bn.out) ?e1 ?e2 hzn ?_)
      case e1 => unfold maxLen; omega
      case e2 => omega
      intro v3 w3 o3 b3 _ _
      have o3' : w3.ownsRow wr.heap.size 26 1 v3 i (nats .u64 X) := by simpa using o3
      obtain ⟨g3, c3, rfl, hg3, hgs3⟩ := o3'.form (by omega)
      have O3 := Lib.hid o3'
      have B3 := Lib.hid (bn.out.trans b3)
      have hz3 : wr.heap.size ≤ w3.heap.size := B3.out.size
      clear o3 o3' b3 Ho bn hzn
      go_wp2_with fail
      go_loopw [13, 15, 16] (fun yv av iv wq => ∃ (k at_ : Nat) (Y W : List Nat) (A2 : Option Addr) (cY : Nat), k ≤ n' ∧ at_ < i ∧ yv = .slice A2 k cY ∧ av = .int .i64 (at_ : Int) ∧ iv = .int .i64 (k : Int) ∧ Hid (PtSt X i k at_ Y W) ∧ Hid (wq.ownsRow w3.heap.size 26 1 (.slice A2 k cY) k (nats .u64 Y)) ∧ Hid (wq.ownsRow wr.heap.size 26 1 (.slice (some ⟨g3, 0, none⟩) i c3) i (nats .u64 W)) ∧ Hid (Below wr.heap.size wr wq) ∧ w3.heap.size ≤ wq.heap.size) (fun _ _ iv _ => n' - (intOf iv).toNat)
      case atStart => exact ⟨0, 0, [], X, none, 0, Nat.zero_le _, by omega, rfl, rfl, rfl, Lib.hid (PtSt.begin X i HlX.out HX8.out), Lib.hid (World.ownsRow_nil _ _ _ _), O3, B3, Nat.le_refl _⟩
      case round =>
        obtain ⟨k, at_, Y, W, A2, cY, hk, hat, rfl, rfl, rfl, Hst, Hy, Hw, Hbq, hszq⟩ := hrel
        by_cases hlt : k < n'
        · obtain ⟨bg, og, rfl, hbg, hcg⟩ := HG2.out.at_ (by omega)
          obtain ⟨bp, op, rfl, hbp, hcp⟩ := HP2.out.at_ (by omega)
          have h1 := hcg k hlt
          have h2 := hcp k (by omega)
          rw [nats_getD _ _ _ (by rw [HlG.out]; exact hlt)] at h1
          rw [nats_getD _ _ _ (by rw [HlP.out]; omega)] at h2
          have hx8 : G.getD k 0 < 256 := by rw [getD_eq _ _ (by rw [HlG.out]; exact hlt)]; exact HG8.out _ (List.getElem_mem _)
          have hp8 : P.getD k 0 < 256 := by rw [getD_eq _ _ (by rw [HlP.out]; omega)]; exact HP8.out _ (List.getElem_mem _)
          generalize G.getD k 0 = x at *
          generalize P.getD k 0 = z at *
          have ha := and_7_u8 x hx8
          obtain ⟨g0, hg0⟩ : ∃ g0, x % 8 = g0 := ⟨_, rfl⟩
          have hg08 : g0 < 8 := by omega
          rw [hg0] at ha
          obtain ⟨hor, hp256, hp1⟩ := or_1 z hp8
          obtain ⟨p, hp⟩ : ∃ p, z ||| 1 = p := ⟨_, rfl⟩
          rw [hp] at hor hp256 hp1
          obtain ⟨g, hg⟩ : ∃ g, g = if 0 < k ∧ g0 = 0 then 1 else g0 := ⟨_, rfl⟩
          have hg8 : g < 8 := by rw [hg]; split <;> omega
          have Hgd := Lib.hid hg
          have c1 := (Hbq.out.cell (p := ⟨bg, og + k, none⟩) hbg).trans h1
          have C2 := Lib.hid ((Hbq.out.cell (p := ⟨bp, op + k, none⟩) hbp).trans h2)
          have Hor := Lib.hid hor
          have Hogp := Lib.hid (or_gp g p hg8 hp256)
          have Hbz := Lib.hid hbp
          clear hcg hcp h1 h2 hg hg0 hp hor
          obtain ⟨cv, hcv⟩ : ∃ cv, cv = decide (0 < k ∧ g0 = 0) := ⟨_, rfl⟩
          have HCV := Lib.hid hcv
          clear hcv
          go_upto_region 17 with (fail)
          go_cut [89] (fun v wx => v = .bool cv ∧ wx = wr)
          case first =>
            by_cases hk0 : 0 < k
            · have e : ((g0 : Int) == 0) = cv := by
                rw [HCV.out]
                by_cases h : g0 = 0
                · rw [decide_eq_true ⟨hk0, h⟩, beq_iff_eq]; omega
                · rw [decide_eq_false (fun hh => h hh.2)]; exact beq_eq_false_iff_ne.2 (by omega)
              go_wp2_with fail
              go_meet
              case rel => exact ⟨rfl, rfl⟩
            · have e : cv = false := by rw [HCV.out]; exact decide_eq_false (fun h => hk0 h.1)
              go_wp2_with fail
              go_meet
              case rel => exact ⟨by rw [e], rfl⟩
          case rest =>
          obtain ⟨rfl, rfl⟩ := hcut
          go_upto_if 89 with (fail)
          go_cut [17] (fun gv wx => gv = .int .i64 (g : Int) ∧ wx = wc)
          case first =>
            by_cases h : 0 < k ∧ g0 = 0
            · have e := Hgd.out
              rw [if_pos h] at e
              subst e
              obtain rfl : cv = true := by rw [HCV.out]; exact decide_eq_true h
              clear h
              go_wp2_with fail
              go_meet
              case rel => exact ⟨rfl, rfl⟩
            · have e := Hgd.out
              rw [if_neg h] at e
              subst e
              obtain rfl : cv = false := by rw [HCV.out]; exact decide_eq_false h
              clear h
              go_wp2_with fail
              go_meet
              case rel => exact ⟨rfl, rfl⟩
          case rest =>
            obtain ⟨rfl, rfl⟩ := hcut
            by_cases hge : i ≤ at_ + g
            · have hge' : (i : Int) ≤ (at_ : Int) + (g : Int) := by omega
              go_wp2_with fail
              go_ret
              exact ⟨rfl, below_trans' B2.out Hbq.out⟩
            · obtain ⟨at2, hat2⟩ : ∃ a2, at_ + g = a2 := ⟨_, rfl⟩
              have hge2 : at2 < i := by omega
              have Hst2 := Lib.hid (Hst.out.next g p hg8 hp256 hp1 (by omega))
              rw [hat2] at Hst2
              have he2 : (at_ : Int) + (g : Int) = (at2 : Int) := by omega
              clear hge hat2
              have c2 := C2.out
              have hor := Hor.out
              have hogp := Hogp.out
              have hwl := Hst.out.wlen
              have hcw := Hw.out.cellAt at2 (by omega)
              rw [nats, List.getElem?_map, List.getElem?_eq_getElem (by omega), Option.map_some, ← getD_eq _ _ (by omega)] at hcw
              have hw16 : W.getD at2 0 < 65536 := by rw [getD_eq _ _ (by omega)]; exact Hst.out.w16 _ (List.getElem_mem _)
              obtain ⟨wv, hwv⟩ : ∃ wv, W.getD at2 0 = wv := ⟨_, rfl⟩
              rw [hwv] at hcw hw16 Hst2
              have howp := or_wp wv p hw16 hp256
              obtain ⟨wv2, hwv2⟩ : ∃ x, x = wv ||| p * 256 := ⟨_, rfl⟩
              obtain ⟨y0, hy0'⟩ : ∃ x, x = g * 256 + p := ⟨_, rfl⟩
              rw [← hwv2] at howp Hst2
              rw [← hy0'] at hogp Hst2
              have hap : Apart (.slice A2 k cY) (.slice (some ⟨g3, 0, none⟩) i c3) := fun q r1 r2 => by
                have := (Hy.out.lt q r1).1
                injection r2 with r2
                have r3 : g3 = q := r2
                omega
              have Hap := Lib.hid hap
              have HWV := Lib.hid hwv
              have hz3q : w3.heap.size ≤ wc.heap.size := hszq
              have hzrq : wr.heap.size ≤ wc.heap.size := Nat.le_trans hz3 hszq
              clear hap hwv hwv2 hy0' hwl Hor Hogp Hgd C2
              go_wp2_with (at_builtin; refine wpList_append_sl rfl _ _ 22 rfl w3.heap.size 26 j0 (.int .u64 0) 8 Try.underlying22 hj hy0 hy1 hy2 rfl _ k _ rfl (Hy.out.alloc _) (some ⟨wc.heap.size, 0, none⟩) 1 1 [.int .u64 (y0 : Int)] rfl (Sl.one_new wc (.int .u64 (y0 : Int)) _ rfl) ?f1 ?f2 ?f3 ?_)
              case f1 => unfold maxLen; omega
              case f2 => omega
              case f3 => first | omega | (simp; omega)
              intro v7 w7 ho7 hb7 hg7 _
              have hw7 := (Hw.out.alloc _).kept hg7 Hap.out.kept
              obtain ⟨A7, c7, rfl, s7⟩ := Sl.of_own ho7 (fun u hu => (List.mem_append.1 hu).elim (nats_one _ _ u) (fun h => by simp at h; subst h; rfl))
              have H7 : Hid (w7.ownsRow w3.heap.size 26 1 (.slice A7 (k + 1) c7) (k + 1) (nats .u64 (Y ++ [y0]))) := by
                rw [nats_append]; exact ho7
              have hb7' : Below wr.heap.size wr w7 := (Hbq.out.alloc hzrq _).trans (hb7.mono hz3)
              have hcw7 : w7.cell? ⟨g3, at2, none⟩ = some (.int .u64 (wv : Int)) := by
                have h := hw7.cellAt at2 (by omega)
                rw [nats, List.getElem?_map, List.getElem?_eq_getElem (by have := Hst.out.wlen; omega), Option.map_some, ← getD_eq _ _ (by have := Hst.out.wlen; omega), HWV.out] at h
                exact h
              have hfz : w7.frozen? ⟨g3, at2, none⟩ = false := hw7.frozenAt at2
              have hst := hw7.stored at2 (.int .u64 (wv2 : Int))
              have hy7 := H7.out.kept hst.2 (by
                cases hA7 : A7 with
                | none => exact .inl rfl
                | some ad =>
                  refine .inr fun e => ?_
                  have h1 := (H7.out.lt ad.block (by rw [hA7]; rfl)).1
                  have h2 : some ad.block = some g3 := e
                  injection h2 with h2
                  omega)
              have Hst7 := Lib.hid hst.1
              rw [nats_set] at Hst7
              have Hy7 := Lib.hid hy7
              have Hb7 := Lib.hid (hb7'.setCell (p := ⟨g3, at2, none⟩) hg3 (.int .u64 (wv2 : Int)))
              have hsz7 : w3.heap.size ≤ (w7.setCell ⟨g3, at2, none⟩ (.int .u64 (wv2 : Int))).heap.size := by
                have h := hst.2.size
                have h2 := hb7.size
                simp at h2
                omega
              clear ho7 s7 hb7 hg7 hw7 hst hy7 hb7' hcw c1 c2
              go_wp2_with fail
              exact ⟨⟨k + 1, at2, Y ++ [y0], W.set at2 wv2, A7, c7, by omega, hge2, rfl, by first | rfl | simp, by first | rfl | simp, Hst2, Hy7, Hst7, Hb7, hsz7⟩, by simp only [intOf]; omega⟩
        · have hk' : k = n' := by omega
          subst hk'
          have hwl := Hst.out.wlen
          have hlY := Hst.out.len
          have hrunb := patchB_byte base true X Y (by rw [HlX.out]; omega) (by rw [hlY]; omega)
          have hdec := patch_dec base true X i k at_ Y W Hst.out hb hn1 hn2 hn' HlX.out HX8.out
          have hA : patchB base true X Y = [142 + (i - 1) / 256, (i - 1) % 256, 135, 64 + k] ++ bigB 5 (base + 549755813888) ++ putSpec X 8 ++ putSpec Y 11 := by
            unfold patchB
            rw [HlX.out, hlY]
            rfl
          have SY := Lib.hid (Sl.of_own' Hy.out (nats_one _ _))
          have SX2 := Lib.hid (SX.out.keep Hbq.out)
          have SW := Lib.hid (Sl.of_own' Hw.out (nats_one _ _))
          have B4 := Lib.hid (below_trans' B2.out Hbq.out)
          have HB8 := Lib.hid hrunb
          have HDec := Lib.hid hdec
          have HA := Lib.hid hA
          have E1 := Lib.hid (show (i : Int) - 1 = ((i - 1 : Nat) : Int) by omega)
          have e2 := or_142 ((i - 1) / 256) (by omega)
          rw [show (((i - 1) / 256 : Nat) : Int) = ((i - 1 : Nat) : Int) / 256 from by omega] at e2
          have E2 := Lib.hid e2
          have E3 := Lib.hid (show ((142 + (i - 1) / 256 : Nat) : Int) % 256 = ((142 + (i - 1) / 256 : Nat) : Int) by omega)
          have E4 := Lib.hid (show ((i - 1 : Nat) : Int) % 256 = (((i - 1) % 256 : Nat) : Int) by omega)
          have E5 := Lib.hid (or_64 k (by omega))
          have E6 := Lib.hid (show ((64 + k : Nat) : Int) % 256 = ((64 + k : Nat) : Int) by omega)
          have hor39 := or_39 base hb
          clear hrunb hdec hA e2 Hw Hbq SX
          go_wp2_with fail
          rw [E1.out, E2.out, E3.out, E4.out, E5.out, E6.out]
          rw [show (base : Int) + 549755813888 = ((base + 549755813888 : Nat) : Int) from by omega]
          have o4 : (wr.alloc (.cells #[.int .u8 ((142 + (i - 1) / 256 : Nat) : Int), .int .u8 (((i - 1) % 256 : Nat) : Int), .int .u8 135, .int .u8 ((64 + k : Nat) : Int)] 5)).ownsRow wr.heap.size 5 1 (.slice (some ⟨wr.heap.size, 0, none⟩) 4 4) 4 (nats .u8 [142 + (i - 1) / 256, (i - 1) % 256, 135, 64 + k]) := World.ownsRow_lit wr #[.int .u8 ((142 + (i - 1) / 256 : Nat) : Int), .int .u8 (((i - 1) % 256 : Nat) : Int), .int .u8 135, .int .u8 ((64 + k : Nat) : Int)] 4 (Nat.le_refl _) (by decide) rfl
          have bn := below_new wr (.cells #[.int .u8 ((142 + (i - 1) / 256 : Nat) : Int), .int .u8 (((i - 1) % 256 : Nat) : Int), .int .u8 135, .int .u8 ((64 + k : Nat) : Int)] 5)
          have hz4 : wr.heap.size ≤ (wr.alloc (.cells #[.int .u8 ((142 + (i - 1) / 256 : Nat) : Int), .int .u8 (((i - 1) % 256 : Nat) : Int), .int .u8 135, .int .u8 ((64 + k : Nat) : Int)] 5)).heap.size := by simp
          have HA2 := HA.out
          obtain ⟨h0, hh0⟩ : ∃ x, x = 142 + (i - 1) / 256 := ⟨_, rfl⟩
          obtain ⟨h1, hh1⟩ : ∃ x, x = (i - 1) % 256 := ⟨_, rfl⟩
          obtain ⟨h2, hh2⟩ : ∃ x, x = 64 + k := ⟨_, rfl⟩
          rw [← hh0, ← hh1, ← hh2] at o4 bn hz4 HA2 ⊢
          generalize wr.alloc (.cells #[.int .u8 (h0 : Int), .int .u8 (h1 : Int), .int .u8 135, .int .u8 (h2 : Int)] 5) = w4 at *
          have O4 := Lib.hid o4
          have Bn := Lib.hid bn
          have HAA := Lib.hid HA2
          clear o4 bn HA2 hh0 hh1 hh2 E2 E3 E4 E5 E6 HA hor39
          refine (putbig_r wr.heap.size 4 _ (base + 549755813888) 5 _ w4 O4.out hz4 (by omega) (by decide)).mono ?_
          have hbp : bigP (base + 549755813888) 5 = bigB 5 (base + 549755813888) := by unfold bigP; rw [if_pos (by decide)]; rfl
          rw [hbp, bigB_length]
          rintro e w5 ⟨v5, rfl, o5, b5⟩
          obtain ⟨A5, c5, rfl, s5⟩ := Sl.of_own o5 (nats_one _ _)
          have S5 := Lib.hid s5
          have B5 := Lib.hid (Bn.out.trans b5)
          clear o5 s5 b5 hbp
          go_wp2_with fail
          refine (rput_ok A5 (4 + 5) c5 _ A1 i c1 X 8 w5 S5.out (SX2.out.keep B5.out) (fun x hx => Nat.lt_trans (HX8.out x hx) (by decide)) (by decide) (by omega)).mono ?_
          rintro e w6 ⟨A6, m6, c6, rfl, s6, b6⟩
          have hm6 := s6.len
          rw [nats_length, List.length_append, putSpec_len, HlX.out] at hm6
          have hl5 := S5.out.len
          rw [nats_length] at hl5
          have hm6b : m6 ≤ 1000 := by unfold nbytes at hm6; omega
          have S6 := Lib.hid s6
          have B6 := Lib.hid (below_trans' B5.out b6)
          clear s6 b6 hm6 hl5
          go_wp2_with fail
          refine (rput_ok A6 m6 c6 _ A2 k cY Y 11 w6 S6.out (SY.out.keep B6.out) (fun x hx => Nat.lt_trans (Hst.out.y11 x hx) (by decide)) (by decide) (by omega)).mono ?_
          rintro e w7 ⟨A7, m7, c7, rfl, s7, b7⟩
          rw [← HAA.out] at s7
          have hm7 := s7.len
          rw [nats_length, patchB_len, HlX.out, Hst.out.len] at hm7
          have hm7b : m7 ≤ 1000000000 := by unfold nbytes at hm7; omega
          have hd := decode_p A7 m7 c7 _ (i : Int) true w7 s7 HB8.out hm7b
          rw [HDec.out] at hd
          have Hd := Lib.hid hd
          have B7 := Lib.hid (below_trans' B6.out b7)
          have HwL := Lib.hid hwl
          clear s7 b7 hm7 hm7b hd hwl hlY
          go_wp2_with fail
          refine Hd.out.mono ?_
          rintro e w8 ⟨A8, c8, rfl, s8, b8⟩
          dsimp only at s8 ⊢
          rw [List.length_map, HwL.out] at s8 ⊢
          rw [Int.natCast_zero]
          have S8 := Lib.hid s8
          have B8 := Lib.hid (below_trans' B7.out b8)
          have SW8 := Lib.hid (SW.out.keep B8.out)
          clear s8 b8 Hd
          go_wp2_with fail
          go_loopw [24] (fun iv wq => ∃ j : Nat, j ≤ i ∧ iv = .int .i64 (j : Int) ∧ Hid (Below w8.heap.size w8 wq)) (fun iv _ => i - (intOf iv).toNat)
          case atStart => exact ⟨0, Nat.zero_le _, rfl, Lib.hid (Below.refl _ _)⟩
          case round =>
            obtain ⟨j, hj, rfl, Hbl⟩ := hrel
            by_cases hlt : j < i
            · obtain ⟨b, off, hbe, hbw, hcell⟩ := S8.out.at_ (by omega)
              subst hbe
              obtain ⟨b', off', hbe', hbw', hcell'⟩ := SW8.out.at_ (by omega)
              injection hbe' with hbe'
              injection hbe' with hb1 hb2 _
              subst hb1 hb2
              have r1 := hcell j hlt
              have r2 := hcell' j hlt
              rw [ints_getD _ _ _ (by rw [List.length_map, HwL.out]; exact hlt)] at r1
              rw [nats_getD _ _ _ (by rw [HwL.out]; exact hlt)] at r2
              have e1 : (W.map fun (w : Nat) => basV base true + (w : Int)).getD j 0 = -(base : Int) + ((W.getD j 0 : Nat) : Int) := by
                rw [List.getD_eq_getElem?_getD, List.getD_eq_getElem?_getD, List.getElem?_map, List.getElem?_eq_getElem (by rw [HwL.out]; exact hlt)]; rfl
              have hw16 : W.getD j 0 < 65536 := by rw [getD_eq _ _ (by rw [HwL.out]; exact hlt)]; exact Hst.out.w16 _ (List.getElem_mem _)
              rw [e1] at r1
              generalize W.getD j 0 = x at *
              have c1 := (Hbl.out.cell (p := ⟨b, off + j, none⟩) hbw).trans r1
              have c2 := (Hbl.out.cell (p := ⟨g3, 0 + j, none⟩) hbw').trans r2
              have c3 := c2
              rw [Nat.zero_add] at c3
              clear hcell hcell' r1 r2 e1
              go_wp2_with fail
              go_quiet (fail)
              go_wp2_with fail
              exact ⟨⟨j + 1, by omega, by go_num, Lib.hid (below_trans' Hbl.out (below_drewN _ _))⟩, by simp only [intOf]; omega⟩
            · go_wp2_with fail
              go_ret
              exact ⟨rfl, below_trans' (below_trans' B4.out B8.out) Hbl.out⟩

set_option maxHeartbeats 3200000 in
set_option maxRecDepth 4000 in
theorem patch_in_false (base : Nat) (A : Option Addr) (n c : Nat) (X : List Nat) (A' : Option Addr) (n' c' : Nat) (G : List Nat) (A'' : Option Addr) (n'' c'' : Nat) (P : List Nat) (w : World) (hb : base ≤ 4294967295)
    (hX : Sl w A n c (nats .u8 X)) (hG : Sl w A' n' c' (nats .u8 G)) (hP : Sl w A'' n'' c'' (nats .u8 P)) (hX8 : ∀ x ∈ X, x < 256) (hG8 : ∀ x ∈ G, x < 256) (hP8 : ∀ x ∈ P, x < 256)
    (hn1 : 1 ≤ n) (hn2 : n ≤ 512) (hn' : n' ≤ 31) (hn'' : n' ≤ n'') :
    Calls Try.prog 6 #[.int .u32 (base : Int), .bool false, .slice A n c, .slice A' n' c', .slice A'' n'' c''] w fun e w' => e = .returned (.bool true) ∧ Below w.heap.size w w' := by
  have hlX := hX.len
  have hlG := hG.len
  have hlP := hP.len
  rw [nats_length] at hlX hlG hlP
  have HX := Lib.hid hX
  have HG := Lib.hid hG
  have HP := Lib.hid hP
  have HX8 := Lib.hid hX8
  have HG8 := Lib.hid hG8
  have HP8 := Lib.hid hP8
  have HlX := Lib.hid hlX
  have HlG := Lib.hid hlG
  have HlP := Lib.hid hlP
  have hm : (n'' : Int) ≤ 9223372036854775807 := by
    have h1 := hP.le
    have h2 := hP.max
    unfold maxLen at h2
    omega
  clear hX hG hP hX8 hG8 hP8 hlX hlG hlP
  obtain ⟨j0, hj, hy0, hy1, hy2⟩ := info_parts Try.info26
  have q1 : ((n : Int) == 0) = false := beq_eq_false_iff_ne.2 (by omega)
  have q2 : decide ((512 : Int) < (n : Int)) = false := decide_eq_false (by omega)
  have q3 : decide ((31 : Int) < (n' : Int)) = false := decide_eq_false (by omega)
  have q4 : decide ((n'' : Int) < (n' : Int)) = false := decide_eq_false (by omega)
  have q6 : decide (n'' < n') = false := decide_eq_false (by omega)
  go_enter Try.func6, Try.ntmps6
  go_wp2_with fail
  refine (known9 _).mono ?_
  rintro e w1 ⟨rfl, b1⟩
  have B1 := Lib.hid b1
  have HX1 := Lib.hid (HX.out.keep b1)
  have HG1 := Lib.hid (HG.out.keep b1)
  have HP1 := Lib.hid (HP.out.keep b1)
  clear b1 HX HG HP
  go_wp2_with fail
  go_loopw [11, 12] (fun xv iv wr => ∃ (i : Nat) (A1 : Option Addr) (c1 : Nat), i ≤ n ∧ xv = .slice A1 i c1 ∧ iv = .int .i64 (i : Int) ∧ Hid (wr.ownsRow w1.heap.size 26 1 (.slice A1 i c1) i (nats .u64 (X.take i))) ∧ Hid (Below w1.heap.size w1 wr)) (fun _ iv _ => n - (intOf iv).toNat)
  case atStart => exact ⟨0, none, 0, Nat.zero_le _, rfl, rfl, Lib.hid (World.ownsRow_nil _ _ _ _), Lib.hid (Below.refl _ _)⟩
  case round =>
    obtain ⟨i, A1, c1, hin, rfl, rfl, Ho, Hbl⟩ := hrel
    have hsz := Hbl.out.size
    by_cases hlt : i < n
    · obtain ⟨b, off, rfl, hbw, hcell⟩ := HX1.out.at_ (by omega)
      have hcl := hcell i hlt
      rw [nats_getD _ _ _ (by rw [HlX.out]; exact hlt)] at hcl
      have hx8 : X.getD i 0 < 256 := by rw [getD_eq _ _ (by rw [HlX.out]; exact hlt)]; exact HX8.out _ (List.getElem_mem _)
      have Hts := Lib.hid (show X.take (i + 1) = X.take i ++ [X.getD i 0] from by rw [List.take_add_one, List.getElem?_eq_getElem (by rw [HlX.out]; exact hlt), getD_eq _ _ (by rw [HlX.out]; exact hlt)]; rfl)
      generalize X.getD i 0 = x at *
      have hcl2 := (Hbl.out.cell (p := ⟨b, off + i, none⟩) hbw).trans hcl
      clear hcell hcl
      go_wp2_with (at_builtin; refine wpList_append_sl rfl _ _ 22 rfl w1.heap.size 26 j0 (.int .u64 0) 8 Try.underlying22 hj hy0 hy1 hy2 rfl _ i _ rfl (Ho.out.alloc _) (some ⟨wr.heap.size, 0, none⟩) 1 1 [.int .u64 (x : Int)] rfl (Sl.one_new wr (.int .u64 (x : Int)) _ rfl) ?d1 ?d2 ?d3 ?_)
      case d1 => unfold maxLen; omega
      case d2 => omega
      case d3 => first | omega | (simp; omega)
      intro v7 w7 ho7 hb7 _ _
      obtain ⟨A7, c7, rfl, s7⟩ := Sl.of_own ho7 (fun u hu => (List.mem_append.1 hu).elim (nats_one _ _ u) (fun h => by simp at h; subst h; rfl))
      have H7 : Hid (w7.ownsRow w1.heap.size 26 1 (.slice A7 (i + 1) c7) (i + 1) (nats .u64 (X.take (i + 1)))) := by
        rw [Hts.out, nats_append]; exact ho7
      have Hb7 := Lib.hid ((Hbl.out.alloc hsz _).trans hb7)
      clear ho7 s7 hb7
      go_wp2_with fail
      exact ⟨⟨i + 1, A7, c7, by omega, rfl, by first | rfl | simp, H7, Hb7⟩, by simp only [intOf]; omega⟩
    · have hin' : i = n := by omega
      subst hin'
      clear hlt hin
      have SX := Lib.hid (show Sl wr A1 i c1 (nats .u64 X) from by
        have := Sl.of_own' Ho.out (nats_one _ _)
        rwa [List.take_of_length_le (by rw [HlX.out]; exact Nat.le_refl _)] at this)
      have B2 := Lib.hid (below_trans' B1.out Hbl.out)
      have HG2 := Lib.hid (HG1.out.keep Hbl.out)
      have HP2 := Lib.hid (HP1.out.keep Hbl.out)
      clear Ho Hbl HG1 HP1 HX1 hsz
      have ho : (wr.alloc (.cells #[] 26)).ownsRow wr.heap.size 26 1 (.slice (some ⟨wr.heap.size, 0, none⟩) 0 0) 0 [] := World.ownsRow_made wr #[] 0 (Nat.le_refl _) (by decide) rfl
      have Ho := Lib.hid ho
      have bn := Lib.hid (below_new wr (.cells #[] 26))
      have hzn : wr.heap.size ≤ (wr.alloc (.cells #[] 26)).heap.size := by simp
      clear ho
      go_wp2_with (at_builtin; refine wpList_append_sl rfl _ _ 22 rfl wr.heap.size 26 j0 (.int .u64 0) 8 Try.underlying22 hj hy0 hy1 hy2 rfl _ 0 _ rfl Ho.out A1 i c1 _ rfl (SX.out.keep bn.out) ?e1 ?e2 hzn ?_)
      case e1 => unfold maxLen; omega
      case e2 => omega
      intro v3 w3 o3 b3 _ _
      have o3' : w3.ownsRow wr.heap.size 26 1 v3 i (nats .u64 X) := by simpa using o3
      obtain ⟨g3, c3, rfl, hg3, hgs3⟩ := o3'.form (by omega)
      have O3 := Lib.hid o3'
      have B3 := Lib.hid (bn.out.trans b3)
      have hz3 : wr.heap.size ≤ w3.heap.size := B3.out.size
      clear o3 o3' b3 Ho bn hzn
      go_wp2_with fail
      go_loopw [13, 15, 16] (fun yv av iv wq => ∃ (k at_ : Nat) (Y W : List Nat) (A2 : Option Addr) (cY : Nat), k ≤ n' ∧ at_ < i ∧ yv = .slice A2 k cY ∧ av = .int .i64 (at_ : Int) ∧ iv = .int .i64 (k : Int) ∧ Hid (PtSt X i k at_ Y W) ∧ Hid (wq.ownsRow w3.heap.size 26 1 (.slice A2 k cY) k (nats .u64 Y)) ∧ Hid (wq.ownsRow wr.heap.size 26 1 (.slice (some ⟨g3, 0, none⟩) i c3) i (nats .u64 W)) ∧ Hid (Below wr.heap.size wr wq) ∧ w3.heap.size ≤ wq.heap.size) (fun _ _ iv _ => n' - (intOf iv).toNat)
      case atStart => exact ⟨0, 0, [], X, none, 0, Nat.zero_le _, by omega, rfl, rfl, rfl, Lib.hid (PtSt.begin X i HlX.out HX8.out), Lib.hid (World.ownsRow_nil _ _ _ _), O3, B3, Nat.le_refl _⟩
      case round =>
        obtain ⟨k, at_, Y, W, A2, cY, hk, hat, rfl, rfl, rfl, Hst, Hy, Hw, Hbq, hszq⟩ := hrel
        by_cases hlt : k < n'
        · obtain ⟨bg, og, rfl, hbg, hcg⟩ := HG2.out.at_ (by omega)
          obtain ⟨bp, op, rfl, hbp, hcp⟩ := HP2.out.at_ (by omega)
          have h1 := hcg k hlt
          have h2 := hcp k (by omega)
          rw [nats_getD _ _ _ (by rw [HlG.out]; exact hlt)] at h1
          rw [nats_getD _ _ _ (by rw [HlP.out]; omega)] at h2
          have hx8 : G.getD k 0 < 256 := by rw [getD_eq _ _ (by rw [HlG.out]; exact hlt)]; exact HG8.out _ (List.getElem_mem _)
          have hp8 : P.getD k 0 < 256 := by rw [getD_eq _ _ (by rw [HlP.out]; omega)]; exact HP8.out _ (List.getElem_mem _)
          generalize G.getD k 0 = x at *
          generalize P.getD k 0 = z at *
          have ha := and_7_u8 x hx8
          obtain ⟨g0, hg0⟩ : ∃ g0, x % 8 = g0 := ⟨_, rfl⟩
          have hg08 : g0 < 8 := by omega
          rw [hg0] at ha
          obtain ⟨hor, hp256, hp1⟩ := or_1 z hp8
          obtain ⟨p, hp⟩ : ∃ p, z ||| 1 = p := ⟨_, rfl⟩
          rw [hp] at hor hp256 hp1
          obtain ⟨g, hg⟩ : ∃ g, g = if 0 < k ∧ g0 = 0 then 1 else g0 := ⟨_, rfl⟩
          have hg8 : g < 8 := by rw [hg]; split <;> omega
          have Hgd := Lib.hid hg
          have c1 := (Hbq.out.cell (p := ⟨bg, og + k, none⟩) hbg).trans h1
          have C2 := Lib.hid ((Hbq.out.cell (p := ⟨bp, op + k, none⟩) hbp).trans h2)
          have Hor := Lib.hid hor
          have Hogp := Lib.hid (or_gp g p hg8 hp256)
          have Hbz := Lib.hid hbp
          clear hcg hcp h1 h2 hg hg0 hp hor
          obtain ⟨cv, hcv⟩ : ∃ cv, cv = decide (0 < k ∧ g0 = 0) := ⟨_, rfl⟩
          have HCV := Lib.hid hcv
          clear hcv
          go_upto_region 17 with (fail)
          go_cut [89] (fun v wx => v = .bool cv ∧ wx = wr)
          case first =>
            by_cases hk0 : 0 < k
            · have e : ((g0 : Int) == 0) = cv := by
                rw [HCV.out]
                by_cases h : g0 = 0
                · rw [decide_eq_true ⟨hk0, h⟩, beq_iff_eq]; omega
                · rw [decide_eq_false (fun hh => h hh.2)]; exact beq_eq_false_iff_ne.2 (by omega)
              go_wp2_with fail
              go_meet
              case rel => exact ⟨rfl, rfl⟩
            · have e : cv = false := by rw [HCV.out]; exact decide_eq_false (fun h => hk0 h.1)
              go_wp2_with fail
              go_meet
              case rel => exact ⟨by rw [e], rfl⟩
          case rest =>
          obtain ⟨rfl, rfl⟩ := hcut
          go_upto_if 89 with (fail)
          go_cut [17] (fun gv wx => gv = .int .i64 (g : Int) ∧ wx = wc)
          case first =>
            by_cases h : 0 < k ∧ g0 = 0
            · have e := Hgd.out
              rw [if_pos h] at e
              subst e
              obtain rfl : cv = true := by rw [HCV.out]; exact decide_eq_true h
              clear h
              go_wp2_with fail
              go_meet
              case rel => exact ⟨rfl, rfl⟩
            · have e := Hgd.out
              rw [if_neg h] at e
              subst e
              obtain rfl : cv = false := by rw [HCV.out]; exact decide_eq_false h
              clear h
              go_wp2_with fail
              go_meet
              case rel => exact ⟨rfl, rfl⟩
          case rest =>
            obtain ⟨rfl, rfl⟩ := hcut
            by_cases hge : i ≤ at_ + g
            · have hge' : (i : Int) ≤ (at_ : Int) + (g : Int) := by omega
              go_wp2_with fail
              go_ret
              exact ⟨rfl, below_trans' B2.out Hbq.out⟩
            · obtain ⟨at2, hat2⟩ : ∃ a2, at_ + g = a2 := ⟨_, rfl⟩
              have hge2 : at2 < i := by omega
              have Hst2 := Lib.hid (Hst.out.next g p hg8 hp256 hp1 (by omega))
              rw [hat2] at Hst2
              have he2 : (at_ : Int) + (g : Int) = (at2 : Int) := by omega
              clear hge hat2
              have c2 := C2.out
              have hor := Hor.out
              have hogp := Hogp.out
              have hwl := Hst.out.wlen
              have hcw := Hw.out.cellAt at2 (by omega)
              rw [nats, List.getElem?_map, List.getElem?_eq_getElem (by omega), Option.map_some, ← getD_eq _ _ (by omega)] at hcw
              have hw16 : W.getD at2 0 < 65536 := by rw [getD_eq _ _ (by omega)]; exact Hst.out.w16 _ (List.getElem_mem _)
              obtain ⟨wv, hwv⟩ : ∃ wv, W.getD at2 0 = wv := ⟨_, rfl⟩
              rw [hwv] at hcw hw16 Hst2
              have howp := or_wp wv p hw16 hp256
              obtain ⟨wv2, hwv2⟩ : ∃ x, x = wv ||| p * 256 := ⟨_, rfl⟩
              obtain ⟨y0, hy0'⟩ : ∃ x, x = g * 256 + p := ⟨_, rfl⟩
              rw [← hwv2] at howp Hst2
              rw [← hy0'] at hogp Hst2
              have hap : Apart (.slice A2 k cY) (.slice (some ⟨g3, 0, none⟩) i c3) := fun q r1 r2 => by
                have := (Hy.out.lt q r1).1
                injection r2 with r2
                have r3 : g3 = q := r2
                omega
              have Hap := Lib.hid hap
              have HWV := Lib.hid hwv
              have hz3q : w3.heap.size ≤ wc.heap.size := hszq
              have hzrq : wr.heap.size ≤ wc.heap.size := Nat.le_trans hz3 hszq
              clear hap hwv hwv2 hy0' hwl Hor Hogp Hgd C2
              go_wp2_with (at_builtin; refine wpList_append_sl rfl _ _ 22 rfl w3.heap.size 26 j0 (.int .u64 0) 8 Try.underlying22 hj hy0 hy1 hy2 rfl _ k _ rfl (Hy.out.alloc _) (some ⟨wc.heap.size, 0, none⟩) 1 1 [.int .u64 (y0 : Int)] rfl (Sl.one_new wc (.int .u64 (y0 : Int)) _ rfl) ?f1 ?f2 ?f3 ?_)
              case f1 => unfold maxLen; omega
              case f2 => omega
              case f3 => first | omega | (simp; omega)
              intro v7 w7 ho7 hb7 hg7 _
              have hw7 := (Hw.out.alloc _).kept hg7 Hap.out.kept
              obtain ⟨A7, c7, rfl, s7⟩ := Sl.of_own ho7 (fun u hu => (List.mem_append.1 hu).elim (nats_one _ _ u) (fun h => by simp at h; subst h; rfl))
              have H7 : Hid (w7.ownsRow w3.heap.size 26 1 (.slice A7 (k + 1) c7) (k + 1) (nats .u64 (Y ++ [y0]))) := by
                rw [nats_append]; exact ho7
              have hb7' : Below wr.heap.size wr w7 := (Hbq.out.alloc hzrq _).trans (hb7.mono hz3)
              have hcw7 : w7.cell? ⟨g3, at2, none⟩ = some (.int .u64 (wv : Int)) := by
                have h := hw7.cellAt at2 (by omega)
                rw [nats, List.getElem?_map, List.getElem?_eq_getElem (by have := Hst.out.wlen; omega), Option.map_some, ← getD_eq _ _ (by have := Hst.out.wlen; omega), HWV.out] at h
                exact h
              have hfz : w7.frozen? ⟨g3, at2, none⟩ = false := hw7.frozenAt at2
              have hst := hw7.stored at2 (.int .u64 (wv2 : Int))
              have hy7 := H7.out.kept hst.2 (by
                cases hA7 : A7 with
                | none => exact .inl rfl
                | some ad =>
                  refine .inr fun e => ?_
                  have h1 := (H7.out.lt ad.block (by rw [hA7]; rfl)).1
                  have h2 : some ad.block = some g3 := e
                  injection h2 with h2
                  omega)
              have Hst7 := Lib.hid hst.1
              rw [nats_set] at Hst7
              have Hy7 := Lib.hid hy7
              have Hb7 := Lib.hid (hb7'.setCell (p := ⟨g3, at2, none⟩) hg3 (.int .u64 (wv2 : Int)))
              have hsz7 : w3.heap.size ≤ (w7.setCell ⟨g3, at2, none⟩ (.int .u64 (wv2 : Int))).heap.size := by
                have h := hst.2.size
                have h2 := hb7.size
                simp at h2
                omega
              clear ho7 s7 hb7 hg7 hw7 hst hy7 hb7' hcw c1 c2
              go_wp2_with fail
              exact ⟨⟨k + 1, at2, Y ++ [y0], W.set at2 wv2, A7, c7, by omega, hge2, rfl, by first | rfl | simp, by first | rfl | simp, Hst2, Hy7, Hst7, Hb7, hsz7⟩, by simp only [intOf]; omega⟩
        · have hk' : k = n' := by omega
          subst hk'
          have hwl := Hst.out.wlen
          have hlY := Hst.out.len
          have hrunb := patchB_byte base false X Y (by rw [HlX.out]; omega) (by rw [hlY]; omega)
          have hdec := patch_dec base false X i k at_ Y W Hst.out hb hn1 hn2 hn' HlX.out HX8.out
          have hA : patchB base false X Y = [142 + (i - 1) / 256, (i - 1) % 256, 135, 64 + k] ++ bigB 5 (base) ++ putSpec X 8 ++ putSpec Y 11 := by
            unfold patchB
            rw [HlX.out, hlY]
            rfl
          have SY := Lib.hid (Sl.of_own' Hy.out (nats_one _ _))
          have SX2 := Lib.hid (SX.out.keep Hbq.out)
          have SW := Lib.hid (Sl.of_own' Hw.out (nats_one _ _))
          have B4 := Lib.hid (below_trans' B2.out Hbq.out)
          have HB8 := Lib.hid hrunb
          have HDec := Lib.hid hdec
          have HA := Lib.hid hA
          have E1 := Lib.hid (show (i : Int) - 1 = ((i - 1 : Nat) : Int) by omega)
          have e2 := or_142 ((i - 1) / 256) (by omega)
          rw [show (((i - 1) / 256 : Nat) : Int) = ((i - 1 : Nat) : Int) / 256 from by omega] at e2
          have E2 := Lib.hid e2
          have E3 := Lib.hid (show ((142 + (i - 1) / 256 : Nat) : Int) % 256 = ((142 + (i - 1) / 256 : Nat) : Int) by omega)
          have E4 := Lib.hid (show ((i - 1 : Nat) : Int) % 256 = (((i - 1) % 256 : Nat) : Int) by omega)
          have E5 := Lib.hid (or_64 k (by omega))
          have E6 := Lib.hid (show ((64 + k : Nat) : Int) % 256 = ((64 + k : Nat) : Int) by omega)
          have hor39 := or_39 base hb
          clear hrunb hdec hA e2 Hw Hbq SX
          go_wp2_with fail
          rw [E1.out, E2.out, E3.out, E4.out, E5.out, E6.out]
          have o4 : (wr.alloc (.cells #[.int .u8 ((142 + (i - 1) / 256 : Nat) : Int), .int .u8 (((i - 1) % 256 : Nat) : Int), .int .u8 135, .int .u8 ((64 + k : Nat) : Int)] 5)).ownsRow wr.heap.size 5 1 (.slice (some ⟨wr.heap.size, 0, none⟩) 4 4) 4 (nats .u8 [142 + (i - 1) / 256, (i - 1) % 256, 135, 64 + k]) := World.ownsRow_lit wr #[.int .u8 ((142 + (i - 1) / 256 : Nat) : Int), .int .u8 (((i - 1) % 256 : Nat) : Int), .int .u8 135, .int .u8 ((64 + k : Nat) : Int)] 4 (Nat.le_refl _) (by decide) rfl
          have bn := below_new wr (.cells #[.int .u8 ((142 + (i - 1) / 256 : Nat) : Int), .int .u8 (((i - 1) % 256 : Nat) : Int), .int .u8 135, .int .u8 ((64 + k : Nat) : Int)] 5)
          have hz4 : wr.heap.size ≤ (wr.alloc (.cells #[.int .u8 ((142 + (i - 1) / 256 : Nat) : Int), .int .u8 (((i - 1) % 256 : Nat) : Int), .int .u8 135, .int .u8 ((64 + k : Nat) : Int)] 5)).heap.size := by simp
          have HA2 := HA.out
          obtain ⟨h0, hh0⟩ : ∃ x, x = 142 + (i - 1) / 256 := ⟨_, rfl⟩
          obtain ⟨h1, hh1⟩ : ∃ x, x = (i - 1) % 256 := ⟨_, rfl⟩
          obtain ⟨h2, hh2⟩ : ∃ x, x = 64 + k := ⟨_, rfl⟩
          rw [← hh0, ← hh1, ← hh2] at o4 bn hz4 HA2 ⊢
          generalize wr.alloc (.cells #[.int .u8 (h0 : Int), .int .u8 (h1 : Int), .int .u8 135, .int .u8 (h2 : Int)] 5) = w4 at *
          have O4 := Lib.hid o4
          have Bn := Lib.hid bn
          have HAA := Lib.hid HA2
          clear o4 bn HA2 hh0 hh1 hh2 E2 E3 E4 E5 E6 HA hor39
          refine (putbig_r wr.heap.size 4 _ (base) 5 _ w4 O4.out hz4 (by omega) (by decide)).mono ?_
          have hbp : bigP (base) 5 = bigB 5 (base) := by unfold bigP; rw [if_pos (by decide)]; rfl
          rw [hbp, bigB_length]
          rintro e w5 ⟨v5, rfl, o5, b5⟩
          obtain ⟨A5, c5, rfl, s5⟩ := Sl.of_own o5 (nats_one _ _)
          have S5 := Lib.hid s5
          have B5 := Lib.hid (Bn.out.trans b5)
          clear o5 s5 b5 hbp
          go_wp2_with fail
          refine (rput_ok A5 (4 + 5) c5 _ A1 i c1 X 8 w5 S5.out (SX2.out.keep B5.out) (fun x hx => Nat.lt_trans (HX8.out x hx) (by decide)) (by decide) (by omega)).mono ?_
          rintro e w6 ⟨A6, m6, c6, rfl, s6, b6⟩
          have hm6 := s6.len
          rw [nats_length, List.length_append, putSpec_len, HlX.out] at hm6
          have hl5 := S5.out.len
          rw [nats_length] at hl5
          have hm6b : m6 ≤ 1000 := by unfold nbytes at hm6; omega
          have S6 := Lib.hid s6
          have B6 := Lib.hid (below_trans' B5.out b6)
          clear s6 b6 hm6 hl5
          go_wp2_with fail
          refine (rput_ok A6 m6 c6 _ A2 k cY Y 11 w6 S6.out (SY.out.keep B6.out) (fun x hx => Nat.lt_trans (Hst.out.y11 x hx) (by decide)) (by decide) (by omega)).mono ?_
          rintro e w7 ⟨A7, m7, c7, rfl, s7, b7⟩
          rw [← HAA.out] at s7
          have hm7 := s7.len
          rw [nats_length, patchB_len, HlX.out, Hst.out.len] at hm7
          have hm7b : m7 ≤ 1000000000 := by unfold nbytes at hm7; omega
          have hd := decode_p A7 m7 c7 _ (i : Int) true w7 s7 HB8.out hm7b
          rw [HDec.out] at hd
          have Hd := Lib.hid hd
          have B7 := Lib.hid (below_trans' B6.out b7)
          have HwL := Lib.hid hwl
          clear s7 b7 hm7 hm7b hd hwl hlY
          go_wp2_with fail
          refine Hd.out.mono ?_
          rintro e w8 ⟨A8, c8, rfl, s8, b8⟩
          dsimp only at s8 ⊢
          rw [List.length_map, HwL.out] at s8 ⊢
          rw [Int.natCast_zero]
          have S8 := Lib.hid s8
          have B8 := Lib.hid (below_trans' B7.out b8)
          have SW8 := Lib.hid (SW.out.keep B8.out)
          clear s8 b8 Hd
          go_wp2_with fail
          go_loopw [24] (fun iv wq => ∃ j : Nat, j ≤ i ∧ iv = .int .i64 (j : Int) ∧ Hid (Below w8.heap.size w8 wq)) (fun iv _ => i - (intOf iv).toNat)
          case atStart => exact ⟨0, Nat.zero_le _, rfl, Lib.hid (Below.refl _ _)⟩
          case round =>
            obtain ⟨j, hj, rfl, Hbl⟩ := hrel
            by_cases hlt : j < i
            · obtain ⟨b, off, hbe, hbw, hcell⟩ := S8.out.at_ (by omega)
              subst hbe
              obtain ⟨b', off', hbe', hbw', hcell'⟩ := SW8.out.at_ (by omega)
              injection hbe' with hbe'
              injection hbe' with hb1 hb2 _
              subst hb1 hb2
              have r1 := hcell j hlt
              have r2 := hcell' j hlt
              rw [ints_getD _ _ _ (by rw [List.length_map, HwL.out]; exact hlt)] at r1
              rw [nats_getD _ _ _ (by rw [HwL.out]; exact hlt)] at r2
              have e1 : (W.map fun (w : Nat) => basV base false + (w : Int)).getD j 0 = (base : Int) + ((W.getD j 0 : Nat) : Int) := by
                rw [List.getD_eq_getElem?_getD, List.getD_eq_getElem?_getD, List.getElem?_map, List.getElem?_eq_getElem (by rw [HwL.out]; exact hlt)]; rfl
              have hw16 : W.getD j 0 < 65536 := by rw [getD_eq _ _ (by rw [HwL.out]; exact hlt)]; exact Hst.out.w16 _ (List.getElem_mem _)
              rw [e1] at r1
              generalize W.getD j 0 = x at *
              have c1 := (Hbl.out.cell (p := ⟨b, off + j, none⟩) hbw).trans r1
              have c2 := (Hbl.out.cell (p := ⟨g3, 0 + j, none⟩) hbw').trans r2
              have c3 := c2
              rw [Nat.zero_add] at c3
              clear hcell hcell' r1 r2 e1
              go_wp2_with fail
              go_quiet (fail)
              go_wp2_with fail
              exact ⟨⟨j + 1, by omega, by go_num, Lib.hid (below_trans' Hbl.out (below_drewN _ _))⟩, by simp only [intOf]; omega⟩
            · go_wp2_with fail
              go_ret
              exact ⟨rfl, below_trans' (below_trans' B4.out B8.out) Hbl.out⟩

set_option maxHeartbeats 3200000 in
set_option maxRecDepth 4000 in
theorem law_RunsPatch (base : Int) (neg : Bool) (A : Option Addr) (n c : Nat) (X : List Nat) (A' : Option Addr) (n' c' : Nat) (G : List Nat) (A'' : Option Addr) (n'' c'' : Nat) (P : List Nat) (w : World) (hb : 0 ≤ base ∧ base ≤ 4294967295)
    (hX : Sl w A n c (nats .u8 X)) (hX8 : ∀ x ∈ X, x < 256) (hG : Sl w A' n' c' (nats .u8 G)) (hG8 : ∀ x ∈ G, x < 256) (hP : Sl w A'' n'' c'' (nats .u8 P)) (hP8 : ∀ x ∈ P, x < 256) :
    Calls Try.prog 6 #[.int .u32 base, .bool neg, .slice A n c, .slice A' n' c', .slice A'' n'' c''] w fun e w' => e = .returned (.bool true) ∧ Below w.heap.size w w' := by
  obtain ⟨b, rfl⟩ : ∃ b : Nat, base = (b : Int) := ⟨base.toNat, by omega⟩
  have m1 : (n : Int) ≤ 9223372036854775807 := by
    have h1 := hX.le
    have h2 := hX.max
    unfold maxLen at h2
    omega
  have m2 : (n' : Int) ≤ 9223372036854775807 := by
    have h1 := hG.le
    have h2 := hG.max
    unfold maxLen at h2
    omega
  have m3 : (n'' : Int) ≤ 9223372036854775807 := by
    have h1 := hP.le
    have h2 := hP.max
    unfold maxLen at h2
    omega
  by_cases hc1 : n = 0
  · clear hX hG hP
    go_enter Try.func6, Try.ntmps6
    go_wp2_with fail
    refine (known9 _).mono ?_
    rintro e w1 ⟨rfl, b1⟩
    have B1 := Lib.hid b1
    clear b1
    go_wp2_with fail
    all_goals (go_ret; exact ⟨rfl, B1.out⟩)
  by_cases hc2 : 512 < (n : Int)
  · clear hX hG hP
    go_enter Try.func6, Try.ntmps6
    go_wp2_with fail
    refine (known9 _).mono ?_
    rintro e w1 ⟨rfl, b1⟩
    have B1 := Lib.hid b1
    clear b1
    go_wp2_with fail
    all_goals (go_ret; exact ⟨rfl, B1.out⟩)
  by_cases hc3 : 31 < (n' : Int)
  · clear hX hG hP
    go_enter Try.func6, Try.ntmps6
    go_wp2_with fail
    refine (known9 _).mono ?_
    rintro e w1 ⟨rfl, b1⟩
    have B1 := Lib.hid b1
    clear b1
    go_wp2_with fail
    all_goals (go_ret; exact ⟨rfl, B1.out⟩)
  by_cases hc4 : (n'' : Int) < (n' : Int)
  · clear hX hG hP
    go_enter Try.func6, Try.ntmps6
    go_wp2_with fail
    refine (known9 _).mono ?_
    rintro e w1 ⟨rfl, b1⟩
    have B1 := Lib.hid b1
    clear b1
    go_wp2_with fail
    all_goals (go_ret; exact ⟨rfl, B1.out⟩)
  by_cases hc5 : neg = true ∧ b = 0
  · obtain ⟨rfl, rfl⟩ := hc5
    clear hX hG hP
    have q1 : ((n : Int) == 0) = false := beq_eq_false_iff_ne.2 (by omega)
    have q2 : decide ((512 : Int) < (n : Int)) = false := decide_eq_false hc2
    have q3 : decide ((31 : Int) < (n' : Int)) = false := decide_eq_false hc3
    have q4 : decide ((n'' : Int) < (n' : Int)) = false := decide_eq_false hc4
    have q6 : decide (n'' < n') = false := decide_eq_false (by omega)
    go_enter Try.func6, Try.ntmps6
    go_wp2_with fail
    refine (known9 _).mono ?_
    rintro e w1 ⟨rfl, b1⟩
    have B1 := Lib.hid b1
    clear b1
    go_wp2_with fail
    all_goals (go_ret; exact ⟨rfl, B1.out⟩)
  · cases neg with
    | true => exact patch_in_true b A n c X A' n' c' G A'' n'' c'' P w (by omega) hX hG hP hX8 hG8 hP8 (by omega) (by omega) (by omega) (by omega) (beq_eq_false_iff_ne.2 (by have : b ≠ 0 := fun h => hc5 ⟨rfl, h⟩; omega))
    | false => exact patch_in_false b A n c X A' n' c' G A'' n'' c'' P w (by omega) hX hG hP hX8 hG8 hP8 (by omega) (by omega) (by omega) (by omega)
end Go.Proofs.Ytehcbgnoiogncaa
