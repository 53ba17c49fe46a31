/- pb.Uints: what it answers. -/
import Derived.Test.YtihclbiohljmlaaPbAsk2
namespace Go.Proofs.Ytihclbiohljmlaa
open Go.RowKit
set_option linter.unusedVariables false

theorem varsR_fuel (f g : Nat) (l acc : List Nat) (hf : l.length ≤ f) (hg : l.length ≤ g) : varsR f l acc = varsR g l acc := by
  induction f generalizing g l acc with
  | zero =>
    have : l = [] := List.eq_nil_of_length_eq_zero (by omega)
    subst this
    cases g <;> simp [varsR]
  | succ f ih =>
    cases g with
    | zero =>
      have : l = [] := List.eq_nil_of_length_eq_zero (by omega)
      subst this
      simp [varsR]
    | succ g =>
      unfold varsR
      by_cases h0 : l = []
      · rw [if_pos h0, if_pos h0]
      · rw [if_neg h0, if_neg h0]
        by_cases h2 : (varR l 0 0).2.2 = 0
        · rw [if_neg (by simpa using h2), if_neg (by simpa using h2)]
          have hs := varR_size l 0 0 h2
          exact ih g _ _ (by simp; omega) (by simp; omega)
        · rw [if_pos h2, if_pos h2]

structure UiSt (w : World) (fs : List FieldV) (num : Int) (R : List Nat × Nat) (i K : Nat) (ov : Value) (m : Nat) (xs : List Nat) (wr : World) : Prop where
  eqv : uintsR num (fs.drop i) xs = R
  own : wr.ownsRow w.heap.size 31 1 ov m (nats .u64 xs)
  hl : xs.length = m
  few : m ≤ K
  bel : Below w.heap.size w wr
/-- Within the bytes of one field. -/
structure UjSt (w : World) (bb : List Nat) (V : List Nat × Nat) (k K : Nat) (tb : Nat) (fb : Obj) (ov : Value) (m : Nat) (xs : List Nat) (wr : World) : Prop where
  eqv : varsR (bb.length - k) (bb.drop k) xs = V
  own : wr.ownsRow w.heap.size 31 1 ov m (nats .u64 xs)
  hl : xs.length = m
  few : m ≤ K + k
  box : wr.heap[tb]? = some fb
  bel : Below w.heap.size w wr

/-- What Uints answers. -/
def UOut (w : World) (R : List Nat × Nat) (e : Ending) (w' : World) : Prop :=
  ∃ F m cF, e = .returned (.tuple #[.slice F m cF, .int .i64 (R.2 : Int)]) ∧ Sl w' F m cF (nats .u64 R.1) ∧ Below w.heap.size w w'
theorem UOut.bad {w w' : World} {er : Nat} (h : Below w.heap.size w w') : UOut w ([], er) (.returned (.tuple #[.slice none 0 0, .int .i64 (er : Int)])) w' := ⟨none, 0, 0, rfl, Sl.none_ w', h⟩

theorem UiSt.out {w wr : World} {fs : List FieldV} {num : Int} {R : List Nat × Nat} {i K m co : Nat} {Ao : Option Addr} {xs : List Nat} (h : UiSt w fs num R i K (.slice Ao m co) m xs wr) (hi : fs.length ≤ i) :
    UOut w R (.returned (.tuple #[.slice Ao m m, .int .i64 0])) wr := by
  obtain ⟨A, c, hv, hs⟩ := Sl.of_own h.own (nats_one _ _)
  injection hv with h1 h2 h3
  subst h1 h3
  have he := h.eqv
  rw [List.drop_eq_nil_of_le hi] at he
  rw [← he]
  exact ⟨_, _, _, rfl, ⟨hs.len, Nat.le_refl _, Nat.le_trans hs.le hs.max, fun hA => by have := hs.nil hA; have := hs.le; omega, hs.cells, hs.one⟩, h.bel⟩
theorem drop_getD (ps : List FA) (i : Nat) (hi : i < ps.length) : (ps.map FA.f).drop i = (ps.getD i noFA).f :: (ps.map FA.f).drop (i + 1) := by
  rw [List.drop_eq_getElem_cons (by simpa using hi)]
  simp [hi]
theorem UiSt.next {w wr w' : World} {fs : List FieldV} {num : Int} {R : List Nat × Nat} {i K K' m m' : Nat} {ov v' : Value} {xs xs' : List Nat} {f : FieldV} (h : UiSt w fs num R i K ov m xs wr) (hf : fs.drop i = f :: fs.drop (i + 1))
    (hx : uintsR num (f :: fs.drop (i + 1)) xs = uintsR num (fs.drop (i + 1)) xs') (ho : w'.ownsRow w.heap.size 31 1 v' m' (nats .u64 xs')) (hl : xs'.length = m') (hk : m' ≤ K') (hb : Below w.heap.size w w') : UiSt w fs num R (i + 1) K' v' m' xs' w' := by
  have he := h.eqv
  rw [hf, hx] at he
  exact ⟨he, ho, hl, hk, hb⟩
theorem uintsR_other (num : Int) (f : FieldV) (l : List FieldV) (acc : List Nat) (h : ¬ ((f.num : Int) = num ∧ (f.wire = 0 ∨ f.wire = 2))) : uintsR num (f :: l) acc = uintsR num l acc := by
  show (if _ then _ else _) = _
  by_cases h1 : (f.num : Int) = num
  · rw [if_neg (by simpa using h1), if_neg (fun h2 => h ⟨h1, .inl h2⟩), if_neg (fun h2 => h ⟨h1, .inr h2⟩)]
  · rw [if_pos h1]
theorem uintsR_var (num : Int) (f : FieldV) (l : List FieldV) (acc : List Nat) (h1 : (f.num : Int) = num) (h2 : f.wire = 0) : uintsR num (f :: l) acc = uintsR num l (acc ++ [f.u]) := by
  show (if _ then _ else _) = _
  rw [if_neg (by simpa using h1), if_pos h2]
theorem uintsR_txt (num : Int) (f : FieldV) (l : List FieldV) (acc : List Nat) (h1 : (f.num : Int) = num) (h2 : f.wire = 2) :
    uintsR num (f :: l) acc = if (varsR f.b.length f.b acc).2 ≠ 0 then ([], (varsR f.b.length f.b acc).2) else uintsR num l (varsR f.b.length f.b acc).1 := by
  show (if _ then _ else _) = _
  rw [if_neg (by simpa using h1), if_neg (by omega), if_pos h2]
theorem UjSt.one {w wr : World} {bb : List Nat} {V : List Nat × Nat} {k K tb : Nat} {fb : Obj} {ov : Value} {m : Nat} {xs : List Nat} (h : UjSt w bb V k K tb fb ov m xs wr) (hk : k < bb.length) :
    (if (varR (bb.drop k) 0 0).2.2 ≠ 0 then ([], (varR (bb.drop k) 0 0).2.2) else varsR (bb.length - k - 1) ((bb.drop k).drop (varR (bb.drop k) 0 0).2.1) (xs ++ [(varR (bb.drop k) 0 0).1])) = V := by
  have h1 := h.eqv
  rw [show bb.length - k = (bb.length - k - 1) + 1 from by omega] at h1
  unfold varsR at h1
  rw [if_neg (by intro e; have := congrArg List.length e; rw [List.length_drop, List.length_nil] at this; omega)] at h1
  exact h1
theorem UjSt.done {w wr : World} {bb : List Nat} {V : List Nat × Nat} {k K tb : Nat} {fb : Obj} {ov : Value} {m : Nat} {xs : List Nat} (h : UjSt w bb V k K tb fb ov m xs wr) (hk : bb.length ≤ k) : V = (xs, 0) := by
  have h1 := h.eqv
  rw [show bb.length - k = 0 from by omega] at h1
  exact h1.symm
theorem UjSt.step {w wr w2 w' : World} {bb : List Nat} {V : List Nat × Nat} {k K tb s v : Nat} {cs : Array Value} {fr : Nat × Nat} {ov v' : Value} {m : Nat} {xs : List Nat} {T : TypeId} (h : UjSt w bb V k K tb (.cells cs T fr) ov m xs wr) (hk : k < bb.length) (he : varR (bb.drop k) 0 0 = (v, s, 0)) (hT : T ≠ 31)
    (hb2 : Below wr.heap.size wr w2) (ho2 : w2.ownsRow w.heap.size 31 1 ov m (nats .u64 xs)) (ho : w'.ownsRow w.heap.size 31 1 v' (m + 1) (nats .u64 xs ++ [.int .u64 (v : Int)])) (hg : w2.grownBy w' ov.ownBlock) :
    UjSt w bb V (k + s) K tb (.cells cs T fr) v' (m + 1) (xs ++ [v]) w' := by
  have h1 := h.one hk
  have hs := varR_size (bb.drop k) 0 0 (by rw [he])
  rw [he] at hs h1
  rw [if_neg (by simp)] at h1
  simp only [List.length_drop] at hs h1
  have hbx : w2.heap[tb]? = some (.cells cs T fr) := (hb2.block _ (Array.getElem?_eq_some_iff.1 h.box).1).trans h.box
  refine ⟨?_, ?_, by simp [h.hl], by have := h.few; omega, ?_, ?_⟩
  · rw [← h1, List.drop_drop]
    exact varsR_fuel _ _ _ _ (by rw [List.length_drop]; omega) (by rw [List.length_drop]; omega)
  · rw [show ([Value.int .u64 (v : Int)] : List Value) = nats .u64 [v] from rfl, ← nats_append] at ho
    exact ho
  · refine (hg.block _ (Array.getElem?_eq_some_iff.1 hbx).1 ?_).trans hbx
    rcases ho2.2 with ⟨rfl, _⟩ | ⟨g, cap, cur, rfl, _, hgb, _⟩
    · simp [Value.ownBlock]
    · intro e'
      obtain rfl : tb = g := by simpa [Value.ownBlock] using e'
      rw [hgb] at hbx
      injection hbx with hbx
      injection hbx with _ h2
      exact hT h2.symm
  · exact (h.bel.trans (hb2.mono h.bel.size)).trans (below_of_grown ho2 hg (Nat.le_trans h.bel.size hb2.size))

set_option maxHeartbeats 400000 in
theorem clip_u64 (A : Option Addr) (n c : Nat) (w : World) (hle : n ≤ c) (hmax : c ≤ maxLen) :
    Calls Try.prog 47 #[.slice A n c] w fun e w' => e = .returned (.slice A n n) ∧ w = w' := by
  unfold maxLen at hmax
  go_enter Try.func47, Try.ntmps47
  go_wp2
  go_ret
  exact ⟨rfl, rfl⟩

set_option maxHeartbeats 4000000 in
set_option maxRecDepth 100000 in
theorem uints_p (A : Option Addr) (n c : Nat) (ps : List FA) (num : Int) (w : World) (hs : Flds w A n c ps) (hn : n ≤ 1000000) (hu : ∀ p ∈ ps, p.f.b.length ≤ 1000000) (hby : ∀ p ∈ ps, ∀ x ∈ p.f.b, x < 256) :
    Calls Try.prog 21 #[.slice A n c, .int .i64 num] w fun e w' => UOut w (uintsR num (ps.map FA.f) []) e w' := by
  obtain ⟨i0, hi, hz0, hz1, hz2⟩ := info_parts Try.info31
  have H0 : UiSt w (ps.map FA.f) num (uintsR num (ps.map FA.f) []) 0 (0 * 1000000) (.slice none 0 0) 0 [] w := ⟨rfl, World.ownsRow_nil _ _ _ _, rfl, by omega, Below.refl _ _⟩
  generalize uintsR num (ps.map FA.f) [] = R at *
  have Hs := Lib.hid hs
  have Hu := Lib.hid hu
  have Hby := Lib.hid hby
  clear hs hu hby
  go_enter Try.func21, Try.ntmps21
  go_wp2_with fail
  go_loopw [6, 15] (fun ov iv wr => ∃ (i m co : Nat) (Ao : Option Addr) (xs : List Nat), i ≤ n ∧ iv = .int .i64 (i : Int) ∧ ov = .slice Ao m co ∧ UiSt w (ps.map FA.f) num R i (i * 1000000) (.slice Ao m co) m xs wr) (fun _ iv _ => n - (intOf iv).toNat)
  case atStart => exact ⟨0, 0, 0, none, [], by omega, rfl, rfl, H0⟩
  case round =>
    obtain ⟨i, m, co, Ao, xs, hi', rfl, rfl, hst⟩ := hrel
    have hfew := hst.few
    have hbel := hst.bel
    have Hst := Lib.hid hst
    clear H0
    obtain ⟨wo, rfl⟩ : ∃ wo : World, wo = wr := ⟨_, rfl⟩
    by_cases hlt : i < n
    · clear hst
      have hl := Hs.out.hl
      obtain ⟨b, off, rfl, hbw, hcell⟩ := Hs.out.sl.at5 hl (by omega)
      obtain ⟨c0, c1, c2, c3, c4⟩ := hcell i hlt
      have hmem := getD_mem ps i (by omega)
      have hdr := drop_getD ps i (by omega)
      have htx := Hs.out.txt _ hmem
      have hbl := Hu.out _ hmem
      have hbb := Hby.out _ hmem
      clear hcell
      generalize ps.getD i noFA = p at *
      obtain ⟨⟨fnum, fwire, u, bb, at_⟩, pA, pc⟩ := p
      dsimp only at *
      have d0 := (hbel.cell (p := ⟨b, off + i * 5, none⟩) hbw).trans c0
      have d1 := (hbel.cell (p := ⟨b, off + i * 5 + 1, none⟩) hbw).trans c1
      have d2 := (hbel.cell (p := ⟨b, off + i * 5 + 2, none⟩) hbw).trans c2
      have d3 := (hbel.cell (p := ⟨b, off + i * 5 + 3, none⟩) hbw).trans c3
      have d4 := (hbel.cell (p := ⟨b, off + i * 5 + 4, none⟩) hbw).trans c4
      have Hdr := Lib.hid hdr
      have Htxw := Lib.hid htx
      have Hbb := Lib.hid hbb
      clear hdr htx c0 c1 c2 c3 c4 hmem hl hbb
      have hszr := hbel.size
      generalize hbbl : bb.length = bl at *
      have Hbbl := Lib.hid hbbl
      clear hbbl
      by_cases hm : (fnum : Int) = num ∧ (fwire = 0 ∨ fwire = 2)
      · obtain ⟨e1, e2⟩ := hm
        subst e1
        rcases e2 with rfl | rfl
        · go_wp2_with (at_builtin; refine wpList_append_sl rfl (.tmp 28) (.tmp 31) 44 rfl w.heap.size 31 i0 (.int .u64 0) 8 Try.underlying44 hi hz0 hz1 hz2 rfl (.slice Ao m co) m _ rfl ((Hst.out.own.alloc _).alloc _) (some ⟨wo.heap.size + 1, 0, none⟩) 1 1 [.int .u64 (u : Int)] rfl ?c0 ?c1 ?c2 ?c3 ?_)
          case c0 => have := Sl.one_new (wo.alloc (.cells #[.int .i64 (fnum : Int), .int .i64 0, .int .u64 (u : Int), .slice pA bl pc, .int .i64 (at_ : Int)] 57)) (.int .u64 (u : Int)) 31 rfl; rw [World.size_alloc] at this; exact this
          case c1 => unfold maxLen; omega
          case c2 => omega
          case c3 => simp; omega
          intro v' w4 ho4 hb4 hg4 _
          have ho5 : w4.ownsRow w.heap.size 31 1 v' (m + 1) (nats .u64 (xs ++ [u])) := by rw [nats_append]; exact ho4
          have hst2 := Hst.out.next Hdr.out (uintsR_var _ _ _ _ rfl rfl) ho5 (by simp [Hst.out.hl]) (show m + 1 ≤ (i + 1) * 1000000 from by omega) (((hbel.alloc hszr _).alloc (by simp; omega) _).trans hb4)
          obtain ⟨A2, c2, rfl, _⟩ := Sl.of_own ho5 (nats_one _ _)
          have Hst2 := Lib.hid hst2
          clear hst2 ho4 hg4 hb4 hbel ho5
          go_wp2_with fail
          exact ⟨⟨i + 1, m + 1, c2, A2, _, by omega, by go_num, rfl, Hst2.out⟩, by simp only [intOf]; omega⟩
        · have htxt := uintsR_txt (fnum : Int) ⟨fnum, 2, u, bb, at_⟩ ((ps.map FA.f).drop (i + 1)) xs rfl rfl
          dsimp only at htxt
          rw [Hbbl.out] at htxt
          generalize hV : varsR bl bb xs = V at htxt
          have H1 : UjSt w bb V 0 (i * 1000000) wo.heap.size (.cells #[.int .i64 (fnum : Int), .int .i64 2, .int .u64 (u : Int), .slice pA bl pc, .int .i64 (at_ : Int)] 57) (.slice Ao m co) m xs (wo.alloc (.cells #[.int .i64 (fnum : Int), .int .i64 2, .int .u64 (u : Int), .slice pA bl pc, .int .i64 (at_ : Int)] 57)) :=
            ⟨by rw [Hbbl.out]; simpa using hV, Hst.out.own.alloc _, Hst.out.hl, Nat.le_add_right_of_le hfew, heap_alloc_new _ _, hbel.alloc hszr _⟩
          have HV := Lib.hid hV
          have Htxt := Lib.hid htxt
          have HH1 := Lib.hid H1
          have Hbel := Lib.hid hbel
          clear hV htxt H1 hbel
          go_wp2_with fail
          go_loopw [6, 9] (fun ov av wi => ∃ (k m2 co2 : Nat) (Ao2 : Option Addr) (xs2 : List Nat), k ≤ bl ∧ av = .int .i64 (k : Int) ∧ ov = .slice Ao2 m2 co2 ∧ UjSt w bb V k (i * 1000000) wo.heap.size (.cells #[.int .i64 (fnum : Int), .int .i64 2, .int .u64 (u : Int), .slice pA bl pc, .int .i64 (at_ : Int)] 57) (.slice Ao2 m2 co2) m2 xs2 wi) (fun _ av _ => bl - (intOf av).toNat)
          case atStart => exact ⟨0, m, co, Ao, xs, by omega, rfl, rfl, HH1.out⟩
          case round =>
            obtain ⟨k, m2, co2, Ao2, xs2, hk, rfl, rfl, hst1⟩ := hrel
            have hfew1 := hst1.few
            have hbel1 := hst1.bel
            have hbox := hst1.box
            have Hst1 := Lib.hid hst1
            have cB : wr.cell? ⟨wo.heap.size, 3, none⟩ = some (.slice pA bl pc) := by rw [cell_of_row _ _ _ _ _ _ hbox]; rfl
            clear d0 d1 d2 d3 d4 HH1 hbox
            by_cases hklt : k < bl
            · have hone := hst1.one (by rw [Hbbl.out]; exact hklt)
              have hsl : Sl wr pA bl pc (nats .u8 bb) := by have := (Htxw.out.keep hbel1).sl; rw [Hbbl.out] at this; exact this
              have hvp := varp pA bl pc bb k wr hsl Hbb.out (by omega) (by omega)
              rw [varS_in bb k (by rw [Hbbl.out]; omega)] at hvp
              have b1 := varR_bd (bb.drop k) 0 0 (by decide) (by decide)
              have z1 := varR_size (bb.drop k) 0 0
              have hbl2 := Hbbl.out
              rw [List.length_drop, hbl2] at z1
              generalize hR : varR (bb.drop k) 0 0 = r at hvp b1 z1 hone
              obtain ⟨v, s, er⟩ := r
              unfold varV at hvp
              simp only at hvp b1 z1 hone
              have HR := Lib.hid hR
              have Hvp := Lib.hid hvp
              have Hone := Lib.hid hone
              have hsz1 := hbel1.size
              clear hR hvp hone hst1 hsl hbl2
              by_cases her : er = 0
              · subst her
                have z2 := z1 rfl
                have hvb := b1.1
                clear z1
                go_wp2_with fail
                refine Hvp.out.mono ?_
                rintro e w1 ⟨rfl, rfl⟩
                go_wp2_with (at_builtin; refine wpList_append_sl rfl (.tmp 53) (.tmp 55) 44 rfl w.heap.size 31 i0 (.int .u64 0) 8 Try.underlying44 hi hz0 hz1 hz2 rfl (.slice Ao2 m2 co2) m2 _ rfl (Hst1.out.own.alloc _) (some ⟨_, 0, none⟩) 1 1 [.int .u64 (v : Int)] rfl (Sl.one_new _ _ 31 rfl) ?c1 ?c2 ?c3 ?_)
                case c1 => unfold maxLen; omega
                case c2 => omega
                case c3 => simp; omega
                intro v' w4 ho4 hb4 hg4 _
                have hst2 := Hst1.out.step (by rw [Hbbl.out]; exact hklt) HR.out (by decide) (below_new _ _) (Hst1.out.own.alloc _) ho4 hg4
                obtain ⟨A2, c2, rfl, _⟩ := Sl.of_own hst2.own (nats_one _ _)
                have Hst2 := Lib.hid hst2
                clear hst2 ho4 hg4 hb4 hbel1
                go_wp2_with fail
                exact ⟨⟨k + s, m2 + 1, c2, A2, _, by omega, by go_num, rfl, Hst2.out⟩, by simp only [intOf]; omega⟩
              · have hV1 := Hone.out
                rw [if_pos her] at hV1
                have ht := Htxt.out
                rw [← hV1, if_pos her] at ht
                have he := Hst.out.eqv
                rw [Hdr.out, ht] at he
                subst he
                have hne : ((er : Int) != 0) = true := by simp; omega
                clear z1 hV1 ht Hone HV
                go_wp2_with fail
                refine Hvp.out.mono ?_
                rintro e w1 ⟨rfl, rfl⟩
                go_wp2_with fail
                go_ret2
                exact UOut.bad hbel1
            · have hV1 := hst1.done (by rw [Hbbl.out]; omega)
              have ht := Htxt.out
              rw [hV1, if_neg (by simp)] at ht
              have hst2 := Hst.out.next Hdr.out ht hst1.own hst1.hl (show m2 ≤ (i + 1) * 1000000 from by omega) hbel1
              have Hst2 := Lib.hid hst2
              clear hst2 hst1 ht hV1
              go_wp2_with fail
              exact ⟨⟨i + 1, m2, co2, Ao2, xs2, by omega, by go_num, rfl, Hst2.out⟩, by simp only [intOf]; omega⟩
      · have hst2 := Hst.out.next Hdr.out (uintsR_other _ _ _ _ hm) (Hst.out.own.alloc (.cells #[.int .i64 (fnum : Int), .int .i64 (fwire : Int), .int .u64 (u : Int), .slice pA bl pc, .int .i64 (at_ : Int)] 57)) Hst.out.hl (Nat.le_trans hfew (Nat.mul_le_mul_right _ (Nat.le_succ i))) (hbel.alloc hszr _)
        have Hst2 := Lib.hid hst2
        clear hst2
        by_cases hn1 : (fnum : Int) = num
        · have hw0 : ¬ fwire = 0 := fun h => hm ⟨hn1, .inl h⟩
          have hw2 : ¬ fwire = 2 := fun h => hm ⟨hn1, .inr h⟩
          subst hn1
          have e2 : ((fwire : Int) == 2) = false := beq_eq_false_iff_ne.2 (by omega)
          have e0 : ((fwire : Int) == 0) = false := beq_eq_false_iff_ne.2 (by omega)
          have e3 : (fwire == 0) = false := beq_eq_false_iff_ne.2 (by omega)
          clear hm hw0 hw2
          go_wp2_with fail
          exact ⟨⟨i + 1, m, co, Ao, xs, by omega, by go_num, rfl, Hst2.out⟩, by simp only [intOf]; omega⟩
        · have e1 : ((fnum : Int) != num) = true := by simpa using hn1
          clear hm
          go_wp2_with fail
          exact ⟨⟨i + 1, m, co, Ao, xs, by omega, by go_num, rfl, Hst2.out⟩, by simp only [intOf]; omega⟩
    · have ho := hst.out (by rw [List.length_map, Hs.out.hl]; omega)
      obtain ⟨_, c3, hv, hs3⟩ := Sl.of_own hst.own (nats_one _ _)
      injection hv with h1 h2 h3
      subst h1 h3
      have hle := hs3.le
      have hmax := hs3.max
      have Ho := Lib.hid ho
      clear hst ho hs3
      go_wp2_with fail
      refine (clip_u64 Ao m co wo hle hmax).mono ?_
      rintro e w1 ⟨rfl, rfl⟩
      go_wp2_with fail
      go_ret2
      exact Ho.out
end Go.Proofs.Ytihclbiohljmlaa
