/- The reference's Uints: what it answers. -/
import Derived.Test.YtihclbiohljmlaaRfAsk
namespace Go.Proofs.Ytihclbiohljmlaa
open Go.RowKit
set_option linter.unusedVariables false

/-- Within the bytes of one field. -/
structure UrSt (w : World) (bb : List Nat) (V : List Nat × Nat) (k K : Nat) (ov : Value) (m : Nat) (xs : List Nat) (wr : World) : Prop where
  eqv : varsR (bb.length - k) (bb.drop k) xs = V
  own : wr.ownsRow w.heap.size 31 1 ov m (nats .u64 xs)
  hl : xs.length = m
  few : m ≤ K + k
  bel : Below w.heap.size w wr
theorem UrSt.one {w wr : World} {bb : List Nat} {V : List Nat × Nat} {k K : Nat} {ov : Value} {m : Nat} {xs : List Nat} (h : UrSt w bb V k K ov m xs wr) (hk : k < bb.length) :
    (if (varR (bb.drop k) 0 0).2.2 ≠ 0 then ([], (varR (bb.drop k) 0 0).2.2) else varsR (bb.length - k - 1) ((bb.drop k).drop (varR (bb.drop k) 0 0).2.1) (xs ++ [(varR (bb.drop k) 0 0).1])) = V := by
  have h1 := h.eqv
  rw [show bb.length - k = (bb.length - k - 1) + 1 from by omega] at h1
  unfold varsR at h1
  rw [if_neg (by intro e; have := congrArg List.length e; rw [List.length_drop, List.length_nil] at this; omega)] at h1
  exact h1
theorem UrSt.done {w wr : World} {bb : List Nat} {V : List Nat × Nat} {k K : Nat} {ov : Value} {m : Nat} {xs : List Nat} (h : UrSt w bb V k K ov m xs wr) (hk : bb.length ≤ k) : V = (xs, 0) := by
  have h1 := h.eqv
  rw [show bb.length - k = 0 from by omega] at h1
  exact h1.symm
theorem UrSt.step {w wr w2 w' : World} {bb : List Nat} {V : List Nat × Nat} {k K s v : Nat} {ov v' : Value} {m : Nat} {xs : List Nat} (h : UrSt w bb V k K ov m xs wr) (hk : k < bb.length) (he : varR (bb.drop k) 0 0 = (v, s, 0))
    (hb2 : Below wr.heap.size wr w2) (ho2 : w2.ownsRow w.heap.size 31 1 ov m (nats .u64 xs)) (ho : w'.ownsRow w.heap.size 31 1 v' (m + 1) (nats .u64 xs ++ [.int .u64 (v : Int)])) (hg : w2.grownBy w' ov.ownBlock) :
    UrSt w bb V (k + s) K v' (m + 1) (xs ++ [v]) w' := by
  have h1 := h.one hk
  have hs := varR_size (bb.drop k) 0 0 (by rw [he])
  rw [he] at hs h1
  rw [if_neg (by simp)] at h1
  simp only [List.length_drop] at hs h1
  refine ⟨?_, ?_, by simp [h.hl], by have := h.few; omega, ?_⟩
  · rw [← h1, List.drop_drop]
    exact varsR_fuel _ _ _ _ (by rw [List.length_drop]; omega) (by rw [List.length_drop]; omega)
  · rw [show ([Value.int .u64 (v : Int)] : List Value) = nats .u64 [v] from rfl, ← nats_append] at ho
    exact ho
  · exact (h.bel.trans (hb2.mono h.bel.size)).trans (below_of_grown ho2 hg (Nat.le_trans h.bel.size hb2.size))
theorem UiSt.out0 {w wr : World} {fs : List FieldV} {num : Int} {R : List Nat × Nat} {i K m co : Nat} {Ao : Option Addr} {xs : List Nat} (h : UiSt w fs num R i K (.slice Ao m co) m xs wr) (hi : fs.length ≤ i) :
    UOut w R (.returned (.tuple #[.slice Ao m co, .int .i64 0])) wr := by
  obtain ⟨A, c, hv, hs⟩ := Sl.of_own h.own (nats_one _ _)
  injection hv with h1 h2 h3
  subst h1 h3
  have he := h.eqv
  rw [List.drop_eq_nil_of_le hi] at he
  rw [← he]
  exact ⟨_, _, _, rfl, hs, h.bel⟩

set_option maxHeartbeats 4000000 in
set_option maxRecDepth 100000 in
theorem ruints_p (A : Option Addr) (n c : Nat) (ps : List FA) (num : Int) (w : World) (hs : Flds w A n c ps) (hn : n ≤ 1000000) (hu : ∀ p ∈ ps, p.f.b.length ≤ 1000000) (hby : ∀ p ∈ ps, ∀ x ∈ p.f.b, x < 256) :
    Calls Try.prog 22 #[.slice A n c, .int .i64 num] w fun e w' => UOut w (uintsR num (ps.map FA.f) []) e w' := by
  obtain ⟨i0, hi, hz0, hz1, hz2⟩ := info_parts Try.info31
  have H0 : UiSt w (ps.map FA.f) num (uintsR num (ps.map FA.f) []) 0 (0 * 1000000) (.slice none 0 0) 0 [] w := ⟨rfl, World.ownsRow_nil _ _ _ _, rfl, by omega, Below.refl _ _⟩
  generalize uintsR num (ps.map FA.f) [] = R at *
  have Hs := Lib.hid hs
  have Hu := Lib.hid hu
  have Hby := Lib.hid hby
  clear hs hu hby
  go_enter Try.func22, Try.ntmps22
  go_wp2_with fail
  go_loopw [6, 7] (fun ov iv wr => ∃ (i m co : Nat) (Ao : Option Addr) (xs : List Nat), i ≤ n ∧ iv = .int .i64 (i : Int) ∧ ov = .slice Ao m co ∧ UiSt w (ps.map FA.f) num R i (i * 1000000) (.slice Ao m co) m xs wr) (fun _ iv _ => n - (intOf iv).toNat)
  case atStart => exact ⟨0, 0, 0, none, [], by omega, rfl, rfl, H0⟩
  case round =>
    obtain ⟨i, m, co, Ao, xs, hi', rfl, rfl, hst⟩ := hrel
    have hfew := hst.few
    have hbel := hst.bel
    have Hst := Lib.hid hst
    clear H0
    obtain ⟨wo, rfl⟩ : ∃ wo : World, wo = wr := ⟨_, rfl⟩
    by_cases hlt : i < n
    · clear hst
      have hl := Hs.out.hl
      obtain ⟨b, off, rfl, hbw, hcell⟩ := Hs.out.sl.at5 hl (by omega)
      obtain ⟨c0, c1, c2, c3, c4⟩ := hcell i hlt
      have hmem := getD_mem ps i (by omega)
      have hdr := drop_getD ps i (by omega)
      have htx := Hs.out.txt _ hmem
      have hbl := Hu.out _ hmem
      have hbb := Hby.out _ hmem
      clear hcell
      generalize ps.getD i noFA = p at *
      obtain ⟨⟨fnum, fwire, u, bb, at_⟩, pA, pc⟩ := p
      dsimp only at *
      have d0 := (hbel.cell (p := ⟨b, off + i * 5, none⟩) hbw).trans c0
      have d1 := (hbel.cell (p := ⟨b, off + i * 5 + 1, none⟩) hbw).trans c1
      have d2 := (hbel.cell (p := ⟨b, off + i * 5 + 2, none⟩) hbw).trans c2
      have Hc1 := Lib.hid c1
      have Hc3 := Lib.hid c3
      have Hdr := Lib.hid hdr
      have Htxw := Lib.hid htx
      have Hbb := Lib.hid hbb
      clear hdr htx c0 c1 c2 c3 c4 hmem hl hbb
      have hszr := hbel.size
      generalize hbbl : bb.length = bl at *
      have Hbbl := Lib.hid hbbl
      clear hbbl
      by_cases hm : (fnum : Int) = num ∧ (fwire = 0 ∨ fwire = 2)
      · obtain ⟨e1, e2⟩ := hm
        subst e1
        rcases e2 with rfl | rfl
        · go_wp2_with (at_builtin; refine wpList_append_sl rfl (.tmp 31) (.tmp 37) 44 rfl w.heap.size 31 i0 (.int .u64 0) 8 Try.underlying44 hi hz0 hz1 hz2 rfl (.slice Ao m co) m _ rfl (Hst.out.own.alloc _) (some ⟨wo.heap.size, 0, none⟩) 1 1 [.int .u64 (u : Int)] rfl (Sl.one_new wo _ 31 rfl) ?c1 ?c2 ?c3 ?_)
          case c1 => unfold maxLen; omega
          case c2 => omega
          case c3 => simp; omega
          intro v' w4 ho4 hb4 hg4 _
          have ho5 : w4.ownsRow w.heap.size 31 1 v' (m + 1) (nats .u64 (xs ++ [u])) := by rw [nats_append]; exact ho4
          have hst2 := Hst.out.next Hdr.out (uintsR_var _ _ _ _ rfl rfl) ho5 (by simp [Hst.out.hl]) (show m + 1 ≤ (i + 1) * 1000000 from by omega) ((hbel.alloc hszr _).trans hb4)
          obtain ⟨A2, c2, rfl, _⟩ := Sl.of_own ho5 (nats_one _ _)
          have Hst2 := Lib.hid hst2
          have hbel4 := hst2.bel
          have d1 := (hbel4.cell (p := ⟨b, off + i * 5 + 1, none⟩) hbw).trans Hc1.out
          clear hst2 ho4 hg4 hb4 hbel ho5 hbel4 d0 d2
          go_wp2_with fail
          go_loopw [6, 8] (fun ov av wi => ∃ (m2 co2 : Nat) (Ao2 : Option Addr) (xs2 : List Nat), av = .int .i64 0 ∧ ov = .slice Ao2 m2 co2 ∧ UiSt w (ps.map FA.f) (fnum : Int) R (i + 1) ((i + 1) * 1000000) (.slice Ao2 m2 co2) m2 xs2 wi) (fun _ _ _ => 0)
          case atStart => exact ⟨m + 1, c2, A2, _, rfl, rfl, Hst2.out⟩
          case round =>
            obtain ⟨m2, co2, Ao2, xs2, rfl, rfl, hst3⟩ := hrel
            have d1 := (hst3.bel.cell (p := ⟨b, off + i * 5 + 1, none⟩) hbw).trans Hc1.out
            have Hst3 := Lib.hid hst3
            clear hst3
            go_wp2_with fail
            exact ⟨⟨i + 1, m2, co2, Ao2, xs2, by omega, by go_num, rfl, Hst3.out⟩, by simp only [intOf]; omega⟩
        · have htxt := uintsR_txt (fnum : Int) ⟨fnum, 2, u, bb, at_⟩ ((ps.map FA.f).drop (i + 1)) xs rfl rfl
          dsimp only at htxt
          rw [Hbbl.out] at htxt
          generalize hV : varsR bl bb xs = V at htxt
          have H1 : UrSt w bb V 0 (i * 1000000) (.slice Ao m co) m xs wo := ⟨by rw [Hbbl.out]; simpa using hV, Hst.out.own, Hst.out.hl, Nat.le_add_right_of_le hfew, hbel⟩
          have HV := Lib.hid hV
          have Htxt := Lib.hid htxt
          have HH1 := Lib.hid H1
          have Hbel := Lib.hid hbel
          clear hV htxt H1 hbel
          go_wp2_with fail
          go_loopw [6, 8] (fun ov av wi => ∃ (k m2 co2 : Nat) (Ao2 : Option Addr) (xs2 : List Nat), k ≤ bl ∧ av = .int .i64 (k : Int) ∧ ov = .slice Ao2 m2 co2 ∧ UrSt w bb V k (i * 1000000) (.slice Ao2 m2 co2) m2 xs2 wi) (fun _ av _ => bl - (intOf av).toNat)
          case atStart => exact ⟨0, m, co, Ao, xs, by omega, rfl, rfl, HH1.out⟩
          case round =>
            obtain ⟨k, m2, co2, Ao2, xs2, hk, rfl, rfl, hst1⟩ := hrel
            have hfew1 := hst1.few
            have hbel1 := hst1.bel
            have Hst1 := Lib.hid hst1
            have d1 := (hbel1.cell (p := ⟨b, off + i * 5 + 1, none⟩) hbw).trans Hc1.out
            have d3 := (hbel1.cell (p := ⟨b, off + i * 5 + 3, none⟩) hbw).trans Hc3.out
            clear d0 d2 HH1
            by_cases hklt : k < bl
            · have hone := hst1.one (by rw [Hbbl.out]; exact hklt)
              have hsl : Sl wr pA bl pc (nats .u8 bb) := by have := (Htxw.out.keep hbel1).sl; rw [Hbbl.out] at this; exact this
              have hvp := varr pA bl pc bb k wr hsl Hbb.out (by omega) (by omega)
              rw [varS_in bb k (by rw [Hbbl.out]; omega)] at hvp
              have b1 := varR_bd (bb.drop k) 0 0 (by decide) (by decide)
              have z1 := varR_size (bb.drop k) 0 0
              have hbl2 := Hbbl.out
              rw [List.length_drop, hbl2] at z1
              generalize hR : varR (bb.drop k) 0 0 = r at hvp b1 z1 hone
              obtain ⟨v, s, er⟩ := r
              unfold varV at hvp
              simp only at hvp b1 z1 hone
              have HR := Lib.hid hR
              have Hvp := Lib.hid hvp
              have Hone := Lib.hid hone
              have hsz1 := hbel1.size
              clear hR hvp hone hst1 hsl hbl2
              by_cases her : er = 0
              · subst her
                have z2 := z1 rfl
                have hvb := b1.1
                clear z1
                go_wp2_with fail
                refine Hvp.out.mono ?_
                rintro e w1 ⟨rfl, rfl⟩
                go_wp2_with (at_builtin; refine wpList_append_sl rfl (.tmp 69) (.tmp 71) 44 rfl w.heap.size 31 i0 (.int .u64 0) 8 Try.underlying44 hi hz0 hz1 hz2 rfl (.slice Ao2 m2 co2) m2 _ rfl (Hst1.out.own.alloc _) (some ⟨_, 0, none⟩) 1 1 [.int .u64 (v : Int)] rfl (Sl.one_new _ _ 31 rfl) ?c1 ?c2 ?c3 ?_)
                case c1 => unfold maxLen; omega
                case c2 => omega
                case c3 => simp; omega
                intro v' w4 ho4 hb4 hg4 _
                have hst2 := Hst1.out.step (by rw [Hbbl.out]; exact hklt) HR.out (below_new _ _) (Hst1.out.own.alloc _) ho4 hg4
                obtain ⟨A2, c2, rfl, _⟩ := Sl.of_own hst2.own (nats_one _ _)
                have Hst2 := Lib.hid hst2
                clear hst2 ho4 hg4 hb4 hbel1
                go_wp2_with fail
                exact ⟨⟨k + s, m2 + 1, c2, A2, _, by omega, by go_num, rfl, Hst2.out⟩, by simp only [intOf]; omega⟩
              · have hV1 := Hone.out
                rw [if_pos her] at hV1
                have ht := Htxt.out
                rw [← hV1, if_pos her] at ht
                have he := Hst.out.eqv
                rw [Hdr.out, ht] at he
                subst he
                have hne : ((er : Int) != 0) = true := by simp; omega
                clear z1 hV1 ht Hone HV
                go_wp2_with fail
                refine Hvp.out.mono ?_
                rintro e w1 ⟨rfl, rfl⟩
                go_wp2_with fail
                go_ret2
                exact UOut.bad hbel1
            · have hV1 := hst1.done (by rw [Hbbl.out]; omega)
              have ht := Htxt.out
              rw [hV1, if_neg (by simp)] at ht
              have hst2 := Hst.out.next Hdr.out ht hst1.own hst1.hl (show m2 ≤ (i + 1) * 1000000 from by omega) hbel1
              have Hst2 := Lib.hid hst2
              clear hst2 hst1 ht hV1
              go_wp2_with fail
              exact ⟨⟨i + 1, m2, co2, Ao2, xs2, by omega, by go_num, rfl, Hst2.out⟩, by simp only [intOf]; omega⟩
      · have hst2 := Hst.out.next Hdr.out (uintsR_other _ _ _ _ hm) Hst.out.own Hst.out.hl (Nat.le_trans hfew (Nat.mul_le_mul_right _ (Nat.le_succ i))) hbel
        have Hst2 := Lib.hid hst2
        clear hst2
        by_cases hn1 : (fnum : Int) = num
        · have hw0 : ¬ fwire = 0 := fun h => hm ⟨hn1, .inl h⟩
          have hw2 : ¬ fwire = 2 := fun h => hm ⟨hn1, .inr h⟩
          subst hn1
          have e2 : ((fwire : Int) == 2) = false := beq_eq_false_iff_ne.2 (by omega)
          have e0 : ((fwire : Int) == 0) = false := beq_eq_false_iff_ne.2 (by omega)
          have e3 : (fwire == 0) = false := beq_eq_false_iff_ne.2 (by omega)
          clear hm hw0 hw2
          go_wp2_with fail
          go_loopw [6, 8] (fun ov av wi => ∃ (m2 co2 : Nat) (Ao2 : Option Addr) (xs2 : List Nat), av = .int .i64 0 ∧ ov = .slice Ao2 m2 co2 ∧ UiSt w (ps.map FA.f) (fnum : Int) R (i + 1) ((i + 1) * 1000000) (.slice Ao2 m2 co2) m2 xs2 wi) (fun _ _ _ => 0)
          case atStart => exact ⟨m, co, Ao, _, rfl, rfl, Hst2.out⟩
          case round =>
            obtain ⟨m2, co2, Ao2, xs2, rfl, rfl, hst3⟩ := hrel
            have d1 := (hst3.bel.cell (p := ⟨b, off + i * 5 + 1, none⟩) hbw).trans Hc1.out
            have Hst3 := Lib.hid hst3
            clear hst3
            go_wp2_with fail
            exact ⟨⟨i + 1, m2, co2, Ao2, xs2, by omega, by go_num, rfl, Hst3.out⟩, by simp only [intOf]; omega⟩
        · have e1 : ((fnum : Int) != num) = true := by simpa using hn1
          clear hm
          go_wp2_with fail
          exact ⟨⟨i + 1, m, co, Ao, xs, by omega, by go_num, rfl, Hst2.out⟩, by simp only [intOf]; omega⟩
    · have ho := hst.out0 (by rw [List.length_map, Hs.out.hl]; omega)
      have Ho := Lib.hid ho
      clear hst ho
      go_wp2_with fail
      go_ret2
      exact Ho.out
end Go.Proofs.Ytihclbiohljmlaa
