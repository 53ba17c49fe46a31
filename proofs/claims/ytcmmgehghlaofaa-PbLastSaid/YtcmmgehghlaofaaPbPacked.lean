/- PbPacked: the walk. -/
import Derived.Test.YtcmmgehghlaofaaPbNests
namespace Go.Proofs.Ytcmmgehghlaofaa
open Go.RowKit
set_option linter.unusedVariables false

theorem take_front {α : Type} (l : List α) (i cut : Nat) (hi : i < l.length) (h : i < cut) : (l.take (i + 1)).take cut = (l.take i).take cut ++ [l[i]] ∧ (l.take (i + 1)).drop cut = [] ∧ (l.take i).drop cut = [] := by
  refine ⟨?_, List.drop_eq_nil_of_le (by rw [List.length_take]; omega), List.drop_eq_nil_of_le (by rw [List.length_take]; omega)⟩
  rw [List.take_take, List.take_take, Nat.min_eq_right (by omega), Nat.min_eq_right (by omega), List.take_succ_eq_append_getElem hi]
theorem take_back {α : Type} (l : List α) (i cut : Nat) (hi : i < l.length) (h : ¬ i < cut) : (l.take (i + 1)).take cut = (l.take i).take cut ∧ (l.take (i + 1)).drop cut = (l.take i).drop cut ++ [l[i]] := by
  rw [List.take_succ_eq_append_getElem hi]
  exact ⟨List.take_append_of_le_length (by rw [List.length_take]; omega), List.drop_append_of_le_length (by rw [List.length_take]; omega)⟩
theorem putsB_nums (l : List Nat) (v : Nat) : putsB ((l ++ [v]).map (PutV.num 3)) = putsB (l.map (PutV.num 3)) ++ putU 3 v := by
  rw [List.map_append, putsB_append]
  congr 1
  simp [putsB, PutV.bytes, putU, mayF]
theorem putsB_len (ps : List PutV) (K : Nat) (h : ∀ p ∈ ps, p.bytes.length ≤ K) : (putsB ps).length ≤ K * ps.length := by
  induction ps with
  | nil => simp [putsB]
  | cons p ps ih =>
    have h1 := h p (by simp)
    have h2 := ih fun q hq => h q (by simp [hq])
    show (p.bytes ++ putsB ps).length ≤ K * (ps.length + 1)
    rw [List.length_append, Nat.mul_add]
    omega
theorem flat_varP_len (l : List Nat) : (l.flatMap varP).length ≤ 10 * l.length := by
  induction l with
  | nil => simp
  | cons v l ih =>
    have := (varP_length v).2
    rw [List.flatMap_cons, List.length_append, List.length_cons]
    omega
theorem flat_varP_byte (l : List Nat) (h : ∀ v ∈ l, v < 18446744073709551616) : ∀ x ∈ l.flatMap varP, x < 256 := by
  intro x hx
  obtain ⟨v, hv, hx⟩ := List.mem_flatMap.1 hx
  exact varP_byte v (h v hv) x hx
theorem num_len (n v : Nat) : (PutV.num n v).bytes.length ≤ 20 := by
  have h1 := (varP_length (n * 8)).2
  have h2 := (varP_length v).2
  show (varP _ ++ varP _).length ≤ _
  rw [List.length_append]
  omega
theorem nums_len (l : List Nat) : (putsB (l.map (PutV.num 3))).length ≤ 20 * l.length := by
  have := putsB_len (l.map (PutV.num 3)) 20 (fun p hp => by obtain ⟨v, _, rfl⟩ := List.mem_map.1 hp; exact num_len 3 v)
  rwa [List.length_map] at this
/-- The law's bytes. -/
def packB (l : List Nat) (cut : Nat) : List PutV := (l.take cut).map (PutV.num 3) ++ [.txt 3 ((l.drop cut).flatMap varP)]
theorem packB_eq (l : List Nat) (cut : Nat) : putsB ((l.take cut).map (PutV.num 3)) ++ putT 3 ((l.drop cut).flatMap varP) = putsB (packB l cut) := by
  unfold packB
  rw [putsB_append]
  congr 1
  simp [putsB, PutV.bytes, putT, mayF]
theorem packB_ok (l : List Nat) (cut : Nat) (h : ∀ v ∈ l, v < 18446744073709551616) (hl : l.length ≤ 60) : ∀ p ∈ packB l cut, p.ok := by
  intro p hp
  rcases List.mem_append.1 hp with hp | hp
  · obtain ⟨v, hv, rfl⟩ := List.mem_map.1 hp
    exact ⟨by decide, by decide, h v (List.mem_of_mem_take hv)⟩
  · rw [List.mem_singleton] at hp
    subst hp
    have := flat_varP_len (l.drop cut)
    rw [List.length_drop] at this
    exact ⟨by decide, by decide, by omega⟩
theorem packB_par (l : List Nat) (cut : Nat) (h : ∀ v ∈ l, v < 18446744073709551616) (hl : l.length ≤ 60) : parS (putsB (packB l cut)) = (putsF 0 (packB l cut), 0) ∧ (putsB (packB l cut)).length ≤ 4000 ∧ uintsR 3 (putsF 0 (packB l cut)) [] = (l, 0) := by
  have h1 := nums_len (l.take cut)
  have h2 := flat_varP_len (l.drop cut)
  have h3 := (varP_length (3 * 8 + 2)).2
  have h4 := (varP_length ((l.drop cut).flatMap varP).length).2
  rw [List.length_take] at h1
  rw [List.length_drop] at h2
  have hlen : (putsB (packB l cut)).length ≤ 4000 := by
    rw [← packB_eq, List.length_append, putT, if_pos (by decide), List.length_append, List.length_append]
    show _ + ((varP (3 * 8 + 2)).length + _ + _) ≤ _
    omega
  refine ⟨parS_puts _ (packB_ok l cut h hl) (by omega) (by simp [packB]; omega), hlen, ?_⟩
  have := uintsR_puts 3 (l.take cut) (l.drop cut) (fun v hv => h v (List.mem_of_mem_drop hv)) 0 []
  rw [List.take_append_drop] at this
  exact this
theorem putsB_byte (ps : List PutV) (h : ∀ p ∈ ps, ∀ x ∈ p.bytes, x < 256) : ∀ x ∈ putsB ps, x < 256 := by
  induction ps with
  | nil => exact fun _ h => by cases h
  | cons p ps ih =>
    intro x hx
    rcases List.mem_append.1 hx with hx | hx
    · exact h p (by simp) x hx
    · exact ih (fun q hq => h q (by simp [hq])) x hx
theorem packB_byte (l : List Nat) (cut : Nat) (h : ∀ v ∈ l, v < 18446744073709551616) (hl : l.length ≤ 60) : ∀ x ∈ putsB (packB l cut), x < 256 := by
  refine putsB_byte _ fun p hp => putB_byte p (packB_ok l cut h hl p hp) ?_
  rcases List.mem_append.1 hp with hp | hp
  · obtain ⟨v, hv, rfl⟩ := List.mem_map.1 hp
    trivial
  · rw [List.mem_singleton] at hp
    subst hp
    exact flat_varP_byte _ fun v hv => h v (List.mem_of_mem_drop hv)

/-- Between two numbers. -/
structure PkSt (w : World) (l : List Nat) (cut i : Nat) (Ab : Option Addr) (mb cb : Nat) (pv : Value) (m : Nat) (wr : World) : Prop where
  b : Sl wr Ab mb cb (nats .u8 (putsB (((l.take i).take cut).map (PutV.num 3))))
  p : ∃ base, base ≤ wr.heap.size ∧ wr.ownsRow base 5 1 pv m (nats .u8 (((l.take i).drop cut).flatMap varP)) ∧ (∀ w', Below base wr w' → Sl w' Ab mb cb (nats .u8 (putsB (((l.take i).take cut).map (PutV.num 3))))) ∧ w.heap.size ≤ base
  nilp : i ≤ cut → pv = .slice none 0 0 ∧ m = 0
  bel : Below w.heap.size w wr
theorem PkSt.front {w wr w' : World} {l : List Nat} {cut i : Nat} {Ab A' : Option Addr} {mb cb m' c' m : Nat} {pv : Value} (h : PkSt w l cut i Ab mb cb pv m wr) (hi : i < l.length) (hc : i < cut)
    (hs : Sl w' A' m' c' (nats .u8 (putsB (((l.take i).take cut).map (PutV.num 3)) ++ putU 3 l[i]))) (hb : Below wr.heap.size wr w') : PkSt w l cut (i + 1) A' m' c' pv m w' := by
  obtain ⟨t1, t2, _⟩ := take_front l i cut hi hc
  obtain ⟨n1, n2⟩ := h.nilp (by omega)
  subst n1 n2
  have hs' : Sl w' A' m' c' (nats .u8 (putsB (((l.take (i + 1)).take cut).map (PutV.num 3)))) := by rw [t1, putsB_nums]; exact hs
  exact ⟨hs', ⟨w'.heap.size, Nat.le_refl _, by rw [t2]; exact World.ownsRow_nil _ _ _ _, fun w2 h2 => hs'.keep h2, Nat.le_trans h.bel.size hb.size⟩, fun _ => ⟨rfl, rfl⟩, h.bel.trans (hb.mono h.bel.size)⟩
theorem PkSt.back {w wr w' : World} {l : List Nat} {cut i base : Nat} {Ab : Option Addr} {mb cb m : Nat} {pv v' : Value} (h : PkSt w l cut i Ab mb cb pv m wr) (hi : i < l.length) (hc : ¬ i < cut) (hB : base ≤ wr.heap.size) (hw : w.heap.size ≤ base)
    (hlow : ∀ w', Below base wr w' → Sl w' Ab mb cb (nats .u8 (putsB (((l.take i).take cut).map (PutV.num 3)))))
    (ho : w'.ownsRow base 5 1 v' (m + (varP l[i]).length) (nats .u8 (((l.take i).drop cut).flatMap varP ++ varP l[i]))) (hb : Below base wr w') : PkSt w l cut (i + 1) Ab mb cb v' (m + (varP l[i]).length) w' := by
  obtain ⟨t1, t2⟩ := take_back l i cut hi hc
  refine ⟨by rw [t1]; exact hlow _ hb, ⟨base, Nat.le_trans hB hb.size, by rw [t2, List.flatMap_append]; simpa using ho, fun w2 h2 => by rw [t1]; exact hlow _ (hb.trans h2), hw⟩, fun h => absurd h (by omega), h.bel.trans (hb.mono hw)⟩

theorem PVar.start {w : World} {base m v : Nat} {bs : List Nat} {ov : Value} (ho : w.ownsRow base 5 1 ov m (nats .u8 bs)) (hv : v < 18446744073709551616) : PVar w base m bs (varP v) v [] ov w :=
  ⟨by simp, by simpa using hv, rfl, by simpa using ho, Below.refl _ _⟩

set_option maxHeartbeats 6400000 in
set_option maxRecDepth 100000 in
theorem law_PbPacked (A : Option Addr) (n c : Nat) (l : List Nat) (cut : Int) (w : World) (hs : Sl w A n c (nats .u64 l)) (hl : ∀ x ∈ l, x < 18446744073709551616) (hcut : -9223372036854775808 ≤ cut ∧ cut ≤ 9223372036854775807) :
    Calls Try.prog 16 #[.slice A n c, .int .i64 cut] w fun e w' => e = .returned (.bool true) ∧ Below w.heap.size w w' := by
  have hle := hs.le
  have hmax := hs.max
  unfold maxLen at hmax
  have hlen := hs.len
  rw [nats_length] at hlen
  obtain ⟨hc1, hc2⟩ := hcut
  have Hs := Lib.hid hs
  have Hl := Lib.hid hl
  have Hlen := Lib.hid hlen
  clear hs hl hlen
  by_cases hg : n ≤ 60 ∧ 0 ≤ cut ∧ cut ≤ n
  · obtain ⟨g1, g2, g3⟩ := hg
    obtain ⟨k, rfl⟩ : ∃ k : Nat, cut = k := ⟨cut.toNat, by omega⟩
    have hkn : k ≤ n := by omega
    have hdec : decide (n < k) = false := by simp; omega
    clear g2 g3 hc1 hc2
    obtain ⟨i0, hi, hz0, hz1, hz2⟩ := info_parts Try.info5
    go_enter Try.func16, Try.ntmps16
    go_wp2_with fail
    refine (known3 w).mono ?_
    rintro e w1 ⟨rfl, hb1⟩
    have e0 : nats .u8 (putsB (((l.take 0).take k).map (PutV.num 3))) = [] := by simp [putsB, nats]
    have e1 : nats .u8 (((l.take 0).drop k).flatMap varP) = [] := by simp [nats]
    have H0 : PkSt w l k 0 none 0 0 (.slice none 0 0) 0 w1 := ⟨by rw [e0]; exact Sl.none_ _, ⟨w1.heap.size, Nat.le_refl _, by rw [e1]; exact World.ownsRow_nil _ _ _ _, fun w' _ => by rw [e0]; exact Sl.none_ _, hb1.size⟩, fun _ => ⟨rfl, rfl⟩, hb1⟩
    have HH0 := Lib.hid H0
    clear H0 hb1 e0 e1
    go_wp2_with fail
    go_loopw [5, 6, 7] (fun bv pv iv wr => ∃ (i mb cb m : Nat) (Ab : Option Addr) (pv1 : Value), i ≤ n ∧ m ≤ 10 * i ∧ iv = .int .i64 (i : Int) ∧ bv = .slice Ab mb cb ∧ pv = pv1 ∧ PkSt w l k i Ab mb cb pv1 m wr) (fun _ _ iv _ => n - (intOf iv).toNat)
    case atStart => exact ⟨0, 0, 0, 0, none, _, by omega, by omega, rfl, rfl, rfl, HH0.out⟩
    case round =>
      obtain ⟨i, mb, cb, m, Ab, pv, hi', hm10, rfl, rfl, rfl, hst⟩ := hrel
      obtain ⟨wo, rfl⟩ : ∃ wo : World, wo = wr := ⟨_, rfl⟩
      have Hst := Lib.hid hst
      have hmb := hst.b.len
      have hnl := nums_len ((l.take i).take k)
      rw [nats_length] at hmb
      rw [hmb, List.length_take, List.length_take, Hlen.out] at hnl
      have hmb2 : mb ≤ 1200 := by omega
      clear hmb hnl hst HH0
      by_cases hlt : i < n
      · obtain ⟨b, off, rfl, hbw, hcell⟩ := Hs.out.at_ (by omega)
        have hcl := hcell i hlt
        have hil : i < l.length := by rw [Hlen.out]; exact hlt
        rw [nats_getD _ _ _ hil, PackMath.getD_eq _ _ hil] at hcl
        have hx := Hl.out _ (List.getElem_mem hil)
        have d0 := (Hst.out.bel.cell (p := ⟨b, off + i, none⟩) hbw).trans hcl
        have Hil := Lib.hid hil
        clear hcell hcl
        by_cases hc : i < k
        · have hpu := putuint_p Ab mb cb _ 3 l[i] wo Hst.out.b hx (by omega)
          have Hpu := Lib.hid hpu
          have hfr := fun (A' : Option Addr) (m' c' : Nat) (w' : World) h1 h2 => Hst.out.front (w' := w') (A' := A') (m' := m') (c' := c') Hil.out hc h1 h2
          have Hfr := Lib.hid hfr
          clear hpu hfr
          generalize l[i] = v at *
          go_wp2_with fail
          refine Hpu.out.mono ?_
          rintro e w3 ⟨A3, m3, c3, rfl, s3, b3⟩
          have Hst2 := Lib.hid (Hfr.out A3 m3 c3 w3 s3 b3)
          clear s3 b3
          go_wp2_with fail
          exact ⟨⟨i + 1, m3, c3, m, A3, _, by omega, by omega, by go_num, rfl, rfl, Hst2.out⟩, by simp only [intOf]; omega⟩
        · obtain ⟨base, hB, hown, hlow, hwb⟩ := Hst.out.p
          have hbk := fun (v' : Value) (w' : World) h1 h2 => Hst.out.back (v' := v') (w' := w') Hil.out hc hB hwb hlow h1 h2
          have Hbk := Lib.hid hbk
          have Hlow := Lib.hid hlow
          have hvl := (varP_length l[i]).2
          have H1 := PVar.start hown hx
          generalize l[i] = v at *
          generalize varP v = R at *
          have HH1 := Lib.hid H1
          clear hbk hlow hown H1
          go_wp2_with fail
          go_loopw [6, 8] (fun ov vv wr => ∃ (x : Nat) (pre : List Nat), vv = .int .u64 (x : Int) ∧ PVar wo base m (((l.take i).drop k).flatMap varP) R x pre ov wr) (fun _ vv _ => (intOf vv).toNat)
          case atStart => exact ⟨v, [], rfl, HH1.out⟩
          case round =>
            obtain ⟨x, pre, rfl, hP⟩ := hrel
            have hfew := hP.few
            have hown1 := hP.own
            have hbel := hP.bel
            have hx64 : x < 18446744073709551616 := Nat.lt_of_lt_of_le hP.small (Nat.pow_le_pow_right (n := 2) (j := 64) (by decide) (by omega))
            have HP := Lib.hid hP
            have hBs : base ≤ wr.heap.size := Nat.le_trans hB hbel.size
            clear hP HH1 d0
            by_cases hx1 : x < 128
            · have e : (x : Int) % 256 = (x : Int) := by omega
              go_wp2_with (at_builtin; refine wpList_append_sl rfl (.tmp 59) (.tmp 62) 22 rfl base 5 i0 (.int .u8 0) 1 Try.underlying22 hi hz0 hz1 hz2 rfl _ _ _ rfl (hown1.alloc _) _ 1 1 _ rfl (Sl.one_new wr (.int .u8 (x : Int)) 5 rfl) ?c1 ?c2 ?c3 ?_)
              case c1 => unfold maxLen; omega
              case c2 => omega
              case c3 => simp; omega
              intro v' w' h1 h2 _ _
              have H3 := Lib.hid (Hbk.out v' w' (HP.out.last hx1 h1) ((hbel.alloc hBs _).trans h2))
              clear e h1 h2 hown1 hbel
              go_wp2_with fail
              exact ⟨⟨i + 1, mb, cb, m + R.length, Ab, _, by omega, by omega, by go_num, rfl, rfl, H3.out⟩, by simp only [intOf]; omega⟩
            · generalize hz : x % 128 + 128 = z
              have e := more_r x hx64
              rw [hz] at e
              have Hz := Lib.hid hz
              clear hz
              go_wp2_with (at_builtin; refine wpList_append_sl rfl (.tmp 50) (.tmp 55) 22 rfl base 5 i0 (.int .u8 0) 1 Try.underlying22 hi hz0 hz1 hz2 rfl _ _ _ rfl (hown1.alloc _) _ 1 1 _ rfl (Sl.one_new wr (.int .u8 (z : Int)) 5 rfl) ?c1 ?c2 ?c3 ?_)
              case c1 => unfold maxLen; omega
              case c2 => omega
              case c3 => simp; omega
              intro v' w' h1 h2 _ _
              have Hb2 := Lib.hid ((Below.refl _ _).alloc hBs _ |>.trans h2)
              have HP2 := Lib.hid (HP.out.more hx1 z Hz.out h1 Hb2.out)
              clear h1 h2 hown1 hbel
              go_wp2_with fail
              exact ⟨⟨x / 128, _, by first | rfl | simp, HP2.out⟩, by simp only [intOf]; omega⟩
      · obtain rfl : i = n := by omega
        have htl : l.take i = l := List.take_of_length_le (by rw [Hlen.out]; omega)
        have hb := Hst.out.b
        obtain ⟨base, hB, hown, hlow, hwb⟩ := Hst.out.p
        rw [htl] at hb hown
        obtain ⟨Ap, cp, hpv, sp⟩ := Sl.of_own hown (nats_one _ _)
        subst hpv
        have h3 := putbytes_p Ab mb cb _ 3 Ap m cp _ wo hb sp (by omega) (by omega)
        rw [packB_eq] at h3
        have hpar := packB_par l k Hl.out (by rw [Hlen.out]; exact g1)
        have hbyte := packB_byte l k Hl.out (by rw [Hlen.out]; exact g1)
        have hin := parS_in _ hbyte
        rw [hpar.1] at hin
        generalize putsB (packB l k) = bytes at *
        have Hh3 := Lib.hid h3
        have Hpar := Lib.hid hpar
        have Hbyte := Lib.hid hbyte
        have Hin := Lib.hid hin
        have Hbel := Lib.hid Hst.out.bel
        clear htl hb hown hlow sp h3 hpar hbyte hin hB hwb
        go_wp2_with fail
        refine Hh3.out.mono ?_
        rintro e w3 ⟨A3, m3, c3, rfl, s3, b3⟩
        have hm3 := s3.len
        rw [nats_length] at hm3
        have hm4 : m3 ≤ 4000 := by rw [← hm3]; exact Hpar.out.2.1
        have hp4 := parse_p A3 m3 c3 bytes w3 s3 Hbyte.out (by omega)
        rw [Hpar.out.1] at hp4
        have Hp4 := Lib.hid hp4
        have Hm3 := Lib.hid hm3
        have Hb3 := Lib.hid (Hbel.out.trans (b3.mono Hbel.out.size))
        clear hp4 hm3 s3 b3
        go_wp2_with fail
        refine Hp4.out.mono ?_
        rintro e w4 ⟨F, mm, cF, ps, rfl, hfl, hps, b4⟩
        dsimp only at hps
        have hpin : ∀ p ∈ ps, p.f.In bytes.length := fun p hp => Hin.out.1 p.f (by rw [← hps]; exact List.mem_map_of_mem hp)
        have hmm : mm ≤ 4096 := by
          have h1 := Hin.out.2
          have h2 := congrArg List.length hps
          rw [List.length_map, hfl.hl] at h2
          omega
        have hu5 := uints_p F mm cF ps 3 w4 hfl (by omega) (fun p hp => by have := (hpin p hp).bl; have := Hm3.out; omega) (fun p hp => (hpin p hp).b)
        rw [hps, Hpar.out.2.2] at hu5
        have Hu5 := Lib.hid hu5
        have Hb4 := Lib.hid (Hb3.out.trans (b4.mono Hb3.out.size))
        clear hps hpin hu5 b4 hfl
        go_wp2_with fail
        refine Hu5.out.mono ?_
        rintro e w5 ⟨X, mx, cX, rfl, s5, b5⟩
        have hmx := s5.len
        rw [nats_length, Hlen.out] at hmx
        subst hmx
        have Hs5 := Lib.hid s5
        have Hb5 := Lib.hid (Hb4.out.trans (b5.mono Hb4.out.size))
        clear s5 b5
        go_wp2_with fail
        go_loopw [13] (fun iv wr => ∃ j : Nat, j ≤ i ∧ iv = .int .i64 (j : Int) ∧ ∃ q, wr = w5.drewN q) (fun iv _ => i - (intOf iv).toNat)
        case atStart => exact ⟨0, Nat.zero_le _, rfl, 0, rfl⟩
        case round =>
          obtain ⟨j, hj, rfl, q, rfl⟩ := hrel
          by_cases hlt2 : j < i
          · obtain ⟨b, off, rfl, hbw, hcell⟩ := Hs5.out.at_ (by omega)
            obtain ⟨b', off', rfl, hbw', hcell'⟩ := (Hs.out.keep Hb5.out).at_ (by omega)
            have h1 := hcell j hlt2
            have h2 := hcell' j hlt2
            rw [nats_getD _ _ _ (by rw [Hlen.out]; exact hlt2)] at h1 h2
            generalize l.getD j 0 = y at *
            have c1 : ((w5.drewN q).drew).cell? ⟨b, off + j, none⟩ = some (.int .u64 (y : Int)) := h1
            have c2 : ((w5.drewN q).drew).cell? ⟨b', off' + j, none⟩ = some (.int .u64 (y : Int)) := h2
            clear hcell hcell'
            go_wp2_with fail
            go_region
            all_goals go_wp2_with fail
            all_goals (refine ⟨⟨j + 1, by omega, by go_num, q + 1, rfl⟩, by simp only [intOf]; omega⟩)
          · go_wp2_with fail
            go_ret
            exact ⟨rfl, Hb5.out.trans ((below_drewN _ _).mono Hb5.out.size)⟩
  · have hbad : 60 < n ∨ (n ≤ 60 ∧ cut < 0) ∨ (n ≤ 60 ∧ 0 ≤ cut ∧ (n : Int) < cut) := by omega
    clear hg
    rcases hbad with g1 | ⟨g1, g2⟩ | ⟨g1, g2, g3⟩
    all_goals
      go_enter Try.func16, Try.ntmps16
      go_wp2_with fail
      refine (known3 w).mono ?_
      rintro e w1 ⟨rfl, hb1⟩
      go_wp2_with fail
      go_ret
      exact ⟨rfl, hb1⟩
end Go.Proofs.Ytcmmgehghlaofaa
