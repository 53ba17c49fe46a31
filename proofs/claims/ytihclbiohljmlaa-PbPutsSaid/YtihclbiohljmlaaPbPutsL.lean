/- PbPuts: the walk. (Printed by gen/putslaw.py.) -/
import Derived.Test.YtihclbiohljmlaaPbPutsS
import Derived.Test.YtihclbiohljmlaaMask
import Derived.Test.YtihclbiohljmlaaOps3
namespace Go.Proofs.Ytihclbiohljmlaa
open Go.RowKit
set_option linter.unusedVariables false

theorem flds_len' {w : World} {A : Option Addr} {n c : Nat} {ps : List FA} {R : List FieldV} (h : Flds w A n c ps) (he : ps.map FA.f = R) : R.length = n := by
  rw [← he, List.length_map, h.hl]
def pz : Value := .agg #[.int .i64 0, .int .i64 0, .int .u64 0, .slice none 0 0]

set_option maxHeartbeats 6400000 in
set_option maxRecDepth 100000 in
theorem law_PbPuts (A : Option Addr) (n c : Nat) (ps : List PutIn) (w : World) (hp : PutsIn w A n c ps) :
    Calls Try.prog 4 #[.slice A n c] w fun e w' => e = .returned (.bool true) ∧ Below w.heap.size w w' := by
  have hle := hp.le
  have hmax := hp.max
  unfold maxLen at hmax
  obtain ⟨i0, hi, hz0, hz1, hz2⟩ := info_parts Try.info52
  obtain ⟨j0, hj, hy0, hy1, hy2⟩ := info_parts Try.info57
  have Hi := Lib.hid hi
  have Hz0 : Hid (i0.zero = some pz) := Lib.hid hz0
  have Hz1 := Lib.hid hz1
  have Hz2 := Lib.hid hz2
  have Hj := Lib.hid hj
  have Hy1 := Lib.hid hy1
  have Hlen := Lib.hid hp.hlen
  have Hp := Lib.hid hp
  clear hi hz0 hz1 hz2 hj hy0 hy1 hy2 hp
  by_cases hg : n ≤ 40
  · go_enter Try.func4, Try.ntmps4
    go_wp2_with fail
    refine (known3 w).mono ?_
    rintro e w1 ⟨rfl, hb1⟩
    have Hb1 := Lib.hid hb1
    have hw1 := hb1.size
    clear hb1
    go_wp2_with fail
    have H0 : PuSt w1 ps 0 0 0 none (.slice none 0 0) (.slice none 0 0) 0 w1 := ⟨Sl.none_ _, World.ownsRow_nil _ _ _ _, World.ownsRow_nil _ _ _ _, rfl, Below.refl _ _⟩
    go_loopw [3, 4, 5, 6] (fun bv cv wv iv wr => ∃ (i mb cb : Nat) (Ab : Option Addr) (cv1 wv1 : Value) (k : Nat), i ≤ n ∧ k ≤ i ∧ iv = .int .i64 (i : Int) ∧ bv = .slice Ab mb cb ∧ cv = cv1 ∧ wv = wv1 ∧ PuSt w1 ps i mb cb Ab cv1 wv1 k wr ∧ (∀ x ∈ ps.take i, x.In ∧ x.b.length ≤ 200)) (fun _ _ _ iv _ => n - (intOf iv).toNat)
    case atStart => exact ⟨0, 0, 0, none, _, _, 0, by omega, by omega, rfl, rfl, rfl, rfl, H0, (fun x hx => by simp at hx)⟩
    case round =>
      obtain ⟨i, mb, cb, Ab, cv, wv, k, hi', hki, rfl, rfl, hcv, hwv, hst, h200⟩ := hrel
      have hcv := hcv.symm
      have hwv := hwv.symm
      subst hcv hwv
      have hok := putsOf_ok _ h200
      have hmb := hst.b.len
      rw [nats_length] at hmb
      have hmb2 : mb ≤ 9200 := by
        have h1 := hok.2.1
        rw [hmb, List.length_take, Hlen.out] at h1
        omega
      have hbel := hst.bel
      have hszr := hbel.size
      have Hst := Lib.hid hst
      have H200 := Lib.hid h200
      have Hok := Lib.hid hok
      have Hmb := Lib.hid hmb
      clear hst h200 hok hmb H0
      by_cases hlt : i < n
      · obtain ⟨b, off, rfl, hbw, hat⟩ := Hp.out.at_ (by omega)
        have hil : i < ps.length := by rw [Hlen.out]; exact hlt
        have hx := hat i ps[i] (List.getElem?_eq_getElem hil)
        have htk : ps.take (i + 1) = ps.take i ++ [ps[i]] := List.take_succ_eq_append_getElem hil
        generalize ps[i] = x at *
        have hskip := fun h {w'} {m' c'} {A'} {v'} a b c d => Hst.out.skip (w' := w') (m' := m') (c' := c') (A' := A') (v' := v') htk h a b c d
        have hstep := fun h {w'} {m' c'} {A'} {v' wv'} a b c d => Hst.out.step (w' := w') (m' := m') (c' := c') (A' := A') (v' := v') (wv' := wv') htk h a b c d
        have hallb := Hb1.out.trans (hbel.mono hw1)
        obtain ⟨xkind, xnum, xu, xA, xc, xb⟩ := x
        obtain ⟨c0, c1, c2, c3, xs, xin⟩ := hx
        have hub := xin.ub
        obtain ⟨hnb1, hnb2⟩ := xin.nb
        dsimp only at *
        generalize hbl : xb.length = bl at *
        have k0 := (hallb.cell (p := ⟨b, off + i * 4, none⟩) hbw).trans c0
        have k1 := (hallb.cell (p := ⟨b, off + i * 4 + 1, none⟩) hbw).trans c1
        have k2 := (hallb.cell (p := ⟨b, off + i * 4 + 2, none⟩) hbw).trans c2
        have k3 := (hallb.cell (p := ⟨b, off + i * 4 + 3, none⟩) hbw).trans c3
        have Hxs := Lib.hid (xs.keep hallb)
        have Hxs0 := Lib.hid xs
        have Hxin := Lib.hid xin
        have Hub := Lib.hid hub
        have Hbl := Lib.hid hbl
        have Htk := Lib.hid htk
        have Hskip := Lib.hid hskip
        have Hstep := Lib.hid hstep
        have Hallb := Lib.hid hallb
        clear hat c0 c1 c2 xs xin hub hbl htk c3 hskip hstep hallb
        by_cases h2 : 200 < bl
        · go_wp2_with fail
          go_ret
          exact ⟨rfl, Hallb.out.alloc (Nat.le_trans hw1 hszr) _⟩
        · have H201 : Hid (∀ x ∈ ps.take (i + 1), x.In ∧ x.b.length ≤ 200) := fun x hx => by
            rw [Htk.out] at hx
            rcases List.mem_append.1 hx with hx | hx
            · exact H200.out x hx
            · rw [List.mem_singleton] at hx
              subst hx
              exact ⟨Hxin.out, by show xb.length ≤ 200; rw [Hbl.out]; omega⟩
          by_cases hk0 : xkind = 0
          · subst hk0
            have Hby : Hid (_ = _) := Lib.hid (show PutIn.bytes ⟨0, xnum, xu, xA, xc, xb⟩ = putU xnum xu from by simp [PutIn.bytes])
            obtain ⟨M, hM⟩ : ∃ M, putsB (putsOf (ps.take i)) ++ PutIn.bytes ⟨0, xnum, xu, xA, xc, xb⟩ = M := ⟨_, rfl⟩
            have HM := Lib.hid hM
            clear hM
            go_wp2_with fail
            refine (putuint_pf Ab mb cb _ xnum xu _ (Hst.out.b.keep (below_new _ _)) Hub.out (by omega)).mono ?_
            rintro e w2 ⟨A2, m2, c2, rfl, s2, b2, F2⟩
            rw [← Hby.out, HM.out] at s2
            have hbw2 : Below w1.heap.size w1 w2 := (hbel.alloc (by omega) _).trans (b2.mono (by simp; omega))
            have hxw2 := Hb1.out.trans (hbw2.mono hw1)
            have bx2 := (b2.block wr.heap.size (by simp)).trans (heap_alloc_new wr (.cells #[.int .i64 0, .int .i64 xnum, .int .u64 (xu : Int), .slice xA bl xc] 52))
            have d1 : w2.cell? ⟨wr.heap.size, 1, none⟩ = some (.int .i64 xnum) := by rw [cell_of_row _ _ _ _ _ _ bx2]; rfl
            have d2 : w2.cell? ⟨wr.heap.size, 2, none⟩ = some (.int .u64 (xu : Int)) := by rw [cell_of_row _ _ _ _ _ _ bx2]; rfl
            have d3 : w2.cell? ⟨wr.heap.size, 3, none⟩ = some (.slice xA bl xc) := by rw [cell_of_row _ _ _ _ _ _ bx2]; rfl
            have ho2 := own_below (Hst.out.c.alloc (.cells #[.int .i64 0, .int .i64 xnum, .int .u64 (xu : Int), .slice xA bl xc] 52)) b2
            have hsz2 := hbw2.size
            have Hb2 := Lib.hid b2
            have Hbw2 := Lib.hid hbw2
            have Hxw2 := Lib.hid hxw2
            have HF2 := Lib.hid F2
            have Hs2 := Lib.hid s2
            clear b2 hbw2 hxw2 F2 s2
            go_wp2_with fail
            refine (putuint_rg w1.heap.size mb _ xnum xu cv _ ho2 (by omega) Hub.out (by omega)).mono ?_
            rintro e w3 ⟨v3, rfl, ho3, b3, G3⟩
            rw [← Hby.out, HM.out] at ho3
            have hmid := Hst.out.mid Hb2.out Hs2.out HF2.out b3 G3 ho3
            have hbx3 := hmid.box
            have d4 : w3.cell? ⟨wr.heap.size, 1, none⟩ = some (.int .i64 xnum) := by rw [cell_of_row _ _ _ _ _ _ hbx3]; rfl
            have hsz3 := hmid.bel.size
            have Hmid := Lib.hid hmid
            have Hbx3 := Lib.hid hbx3
            clear hmid bx2 ho3 b3 G3 ho2 d1 d2 d3 hbx3
            by_cases hm : mayF xnum
            · have hm1 := hm.1
              have hm2 := hm.2
              have Hm := Lib.hid hm
              clear hm
              go_wp2_with (first | (at_builtin; refine wpList_append_own _ rfl (.tmp 84) (.tmp 86) 50 rfl w1.heap.size 52 i0 pz 4 48 Try.underlying50 Hi.out Hz0.out Hz1.out Hz2.out rfl (by decide) wv k _ rfl (Hmid.out.want.alloc _) ⟨w3.heap.size, 0, none⟩ 1 1 (PutIn.cells ⟨0, xnum, xu, xA, xc, xb⟩) rfl rfl ?a1 ?a2 ?a3 ?a4 ?a5 ?_) | (refine wpList_load_row rfl 52 (.tmp 7) rfl wr.heap.size rfl 52 _ (0, 0) _ Hbx3.out Try.underlying52 rfl (by kernel_rfl) ?_))
              case a1 =>
                intro j x hx
                rw [add_none, Nat.zero_add, cell_of_row _ _ _ _ _ _ (heap_alloc_new w3 _)]
                have hbl : xb.length = bl := Hbl.out
                simpa [PutIn.cells, hbl] using hx
              case a2 => exact PutIn.one _
              case a3 => unfold maxLen; omega
              case a4 => omega
              case a5 => simp; omega
              intro wv' w4 ho4 hg4 _
              obtain ⟨sb, sc, hb4⟩ := Hmid.out.grown hg4 ho4
              rw [← HM.out] at sb sc
              obtain ⟨Aw, cw, rfl, _⟩ := SlS.of_own ho4 (fun u hu => by rcases List.mem_append.1 hu with h | h; exact puts_one _ u h; exact PutIn.one _ u h)
              have Hst2 := Lib.hid (Hstep.out Hm.out sb sc ho4 hb4)
              clear sb sc ho4 hg4 d4
              go_wp2_with fail
              exact ⟨⟨i + 1, m2, c2, A2, _, _, k + 1, by omega, by omega, by go_num, rfl, rfl, rfl, Hst2.out, H201.out⟩, by simp only [intOf]; omega⟩
            · have hst2 := Hskip.out hm (by rw [HM.out]; exact Hmid.out.b) (by rw [HM.out]; exact Hmid.out.c) Hmid.out.want Hmid.out.bel
              have Hst2 := Lib.hid hst2
              have hbad : xnum < 1 ∨ (1 ≤ xnum ∧ 536870911 < xnum) := by unfold mayF at hm; omega
              clear hst2 hm
              rcases hbad with hq | ⟨hq1, hq2⟩
              · have hq3 : decide (1 ≤ xnum) = false := decide_eq_false (by omega)
                go_wp2_with fail
                exact ⟨⟨i + 1, m2, c2, A2, _, _, k, by omega, by omega, by go_num, rfl, rfl, rfl, Hst2.out, H201.out⟩, by simp only [intOf]; omega⟩
              · go_wp2_with fail
                exact ⟨⟨i + 1, m2, c2, A2, _, _, k, by omega, by omega, by go_num, rfl, rfl, rfl, Hst2.out, H201.out⟩, by simp only [intOf]; omega⟩
          · by_cases hk1 : xkind = 1
            · subst hk1
              have Hby : Hid (_ = _) := Lib.hid (show PutIn.bytes ⟨1, xnum, xu, xA, xc, xb⟩ = putU xnum (zigS (wrap64 (xu : Int))).toNat from by simp [PutIn.bytes, PutIn.z])
              obtain ⟨M, hM⟩ : ∃ M, putsB (putsOf (ps.take i)) ++ PutIn.bytes ⟨1, xnum, xu, xA, xc, xb⟩ = M := ⟨_, rfl⟩
              have HM := Lib.hid hM
              clear hM
              go_wp2_with fail
              refine (putint_pf Ab mb cb _ xnum (wrap64 (xu : Int)) _ (Hst.out.b.keep (below_new _ _)) (wrap64_in _) (by omega)).mono ?_
              rintro e w2 ⟨A2, m2, c2, rfl, s2, b2, F2⟩
              rw [← Hby.out, HM.out] at s2
              have hbw2 : Below w1.heap.size w1 w2 := (hbel.alloc (by omega) _).trans (b2.mono (by simp; omega))
              have hxw2 := Hb1.out.trans (hbw2.mono hw1)
              have bx2 := (b2.block wr.heap.size (by simp)).trans (heap_alloc_new wr (.cells #[.int .i64 1, .int .i64 xnum, .int .u64 (xu : Int), .slice xA bl xc] 52))
              have d1 : w2.cell? ⟨wr.heap.size, 1, none⟩ = some (.int .i64 xnum) := by rw [cell_of_row _ _ _ _ _ _ bx2]; rfl
              have d2 : w2.cell? ⟨wr.heap.size, 2, none⟩ = some (.int .u64 (xu : Int)) := by rw [cell_of_row _ _ _ _ _ _ bx2]; rfl
              have d3 : w2.cell? ⟨wr.heap.size, 3, none⟩ = some (.slice xA bl xc) := by rw [cell_of_row _ _ _ _ _ _ bx2]; rfl
              have ho2 := own_below (Hst.out.c.alloc (.cells #[.int .i64 1, .int .i64 xnum, .int .u64 (xu : Int), .slice xA bl xc] 52)) b2
              have hsz2 := hbw2.size
              have Hb2 := Lib.hid b2
              have Hbw2 := Lib.hid hbw2
              have Hxw2 := Lib.hid hxw2
              have HF2 := Lib.hid F2
              have Hs2 := Lib.hid s2
              clear b2 hbw2 hxw2 F2 s2
              go_wp2_with fail
              refine (putint_rg w1.heap.size mb _ xnum (wrap64 (xu : Int)) cv _ ho2 (by omega) (wrap64_in _) (by omega)).mono ?_
              rintro e w3 ⟨v3, rfl, ho3, b3, G3⟩
              rw [← Hby.out, HM.out] at ho3
              have hmid := Hst.out.mid Hb2.out Hs2.out HF2.out b3 G3 ho3
              have hbx3 := hmid.box
              have d4 : w3.cell? ⟨wr.heap.size, 1, none⟩ = some (.int .i64 xnum) := by rw [cell_of_row _ _ _ _ _ _ hbx3]; rfl
              have hsz3 := hmid.bel.size
              have Hmid := Lib.hid hmid
              have Hbx3 := Lib.hid hbx3
              clear hmid bx2 ho3 b3 G3 ho2 d1 d2 d3 hbx3
              by_cases hm : mayF xnum
              · have hm1 := hm.1
                have hm2 := hm.2
                have Hm := Lib.hid hm
                clear hm
                go_wp2_with (first | (at_builtin; refine wpList_append_own _ rfl (.tmp 84) (.tmp 86) 50 rfl w1.heap.size 52 i0 pz 4 48 Try.underlying50 Hi.out Hz0.out Hz1.out Hz2.out rfl (by decide) wv k _ rfl (Hmid.out.want.alloc _) ⟨w3.heap.size, 0, none⟩ 1 1 (PutIn.cells ⟨1, xnum, xu, xA, xc, xb⟩) rfl rfl ?b1 ?b2 ?b3 ?b4 ?b5 ?_) | (refine wpList_load_row rfl 52 (.tmp 7) rfl wr.heap.size rfl 52 _ (0, 0) _ Hbx3.out Try.underlying52 rfl (by kernel_rfl) ?_))
                case b1 =>
                  intro j x hx
                  rw [add_none, Nat.zero_add, cell_of_row _ _ _ _ _ _ (heap_alloc_new w3 _)]
                  have hbl : xb.length = bl := Hbl.out
                  simpa [PutIn.cells, hbl] using hx
                case b2 => exact PutIn.one _
                case b3 => unfold maxLen; omega
                case b4 => omega
                case b5 => simp; omega
                intro wv' w4 ho4 hg4 _
                obtain ⟨sb, sc, hb4⟩ := Hmid.out.grown hg4 ho4
                rw [← HM.out] at sb sc
                obtain ⟨Aw, cw, rfl, _⟩ := SlS.of_own ho4 (fun u hu => by rcases List.mem_append.1 hu with h | h; exact puts_one _ u h; exact PutIn.one _ u h)
                have Hst2 := Lib.hid (Hstep.out Hm.out sb sc ho4 hb4)
                clear sb sc ho4 hg4 d4
                go_wp2_with fail
                exact ⟨⟨i + 1, m2, c2, A2, _, _, k + 1, by omega, by omega, by go_num, rfl, rfl, rfl, Hst2.out, H201.out⟩, by simp only [intOf]; omega⟩
              · have hst2 := Hskip.out hm (by rw [HM.out]; exact Hmid.out.b) (by rw [HM.out]; exact Hmid.out.c) Hmid.out.want Hmid.out.bel
                have Hst2 := Lib.hid hst2
                have hbad : xnum < 1 ∨ (1 ≤ xnum ∧ 536870911 < xnum) := by unfold mayF at hm; omega
                clear hst2 hm
                rcases hbad with hq | ⟨hq1, hq2⟩
                · have hq3 : decide (1 ≤ xnum) = false := decide_eq_false (by omega)
                  go_wp2_with fail
                  exact ⟨⟨i + 1, m2, c2, A2, _, _, k, by omega, by omega, by go_num, rfl, rfl, rfl, Hst2.out, H201.out⟩, by simp only [intOf]; omega⟩
                · go_wp2_with fail
                  exact ⟨⟨i + 1, m2, c2, A2, _, _, k, by omega, by omega, by go_num, rfl, rfl, rfl, Hst2.out, H201.out⟩, by simp only [intOf]; omega⟩
            · skip
              have Hby : Hid (_ = _) := Lib.hid (show PutIn.bytes ⟨xkind, xnum, xu, xA, xc, xb⟩ = putT xnum xb from by simp [PutIn.bytes, hk0, hk1])
              have e0 : (xkind == 0) = false := beq_eq_false_iff_ne.2 hk0
              have e1 : (xkind == 1) = false := beq_eq_false_iff_ne.2 hk1
              obtain ⟨M, hM⟩ : ∃ M, putsB (putsOf (ps.take i)) ++ PutIn.bytes ⟨xkind, xnum, xu, xA, xc, xb⟩ = M := ⟨_, rfl⟩
              have HM := Lib.hid hM
              clear hM
              go_wp2_with fail
              refine (putbytes_pf Ab mb cb _ xnum xA bl xc xb _ (Hst.out.b.keep (below_new _ _)) (Hxs.out.keep (below_new _ _)) (by omega) (by omega)).mono ?_
              rintro e w2 ⟨A2, m2, c2, rfl, s2, b2, F2⟩
              rw [← Hby.out, HM.out] at s2
              have hbw2 : Below w1.heap.size w1 w2 := (hbel.alloc (by omega) _).trans (b2.mono (by simp; omega))
              have hxw2 := Hb1.out.trans (hbw2.mono hw1)
              have bx2 := (b2.block wr.heap.size (by simp)).trans (heap_alloc_new wr (.cells #[.int .i64 xkind, .int .i64 xnum, .int .u64 (xu : Int), .slice xA bl xc] 52))
              have d1 : w2.cell? ⟨wr.heap.size, 1, none⟩ = some (.int .i64 xnum) := by rw [cell_of_row _ _ _ _ _ _ bx2]; rfl
              have d2 : w2.cell? ⟨wr.heap.size, 2, none⟩ = some (.int .u64 (xu : Int)) := by rw [cell_of_row _ _ _ _ _ _ bx2]; rfl
              have d3 : w2.cell? ⟨wr.heap.size, 3, none⟩ = some (.slice xA bl xc) := by rw [cell_of_row _ _ _ _ _ _ bx2]; rfl
              have ho2 := own_below (Hst.out.c.alloc (.cells #[.int .i64 xkind, .int .i64 xnum, .int .u64 (xu : Int), .slice xA bl xc] 52)) b2
              have hsz2 := hbw2.size
              have Hb2 := Lib.hid b2
              have Hbw2 := Lib.hid hbw2
              have Hxw2 := Lib.hid hxw2
              have HF2 := Lib.hid F2
              have Hs2 := Lib.hid s2
              clear b2 hbw2 hxw2 F2 s2
              go_wp2_with fail
              refine (putbytes_rg w1.heap.size mb _ xnum cv xA bl xc xb _ ho2 (by omega) (Hxs0.out.keep Hxw2.out) (fun w' h => Hxs0.out.keep (Hxw2.out.trans (h.mono hw1))) (by omega) (by omega)).mono ?_
              rintro e w3 ⟨v3, rfl, ho3, b3, G3⟩
              rw [← Hby.out, HM.out] at ho3
              have hmid := Hst.out.mid Hb2.out Hs2.out HF2.out b3 G3 ho3
              have hbx3 := hmid.box
              have d4 : w3.cell? ⟨wr.heap.size, 1, none⟩ = some (.int .i64 xnum) := by rw [cell_of_row _ _ _ _ _ _ hbx3]; rfl
              have hsz3 := hmid.bel.size
              have Hmid := Lib.hid hmid
              have Hbx3 := Lib.hid hbx3
              clear hmid bx2 ho3 b3 G3 ho2 d1 d2 d3 hbx3
              by_cases hm : mayF xnum
              · have hm1 := hm.1
                have hm2 := hm.2
                have Hm := Lib.hid hm
                clear hm
                go_wp2_with (first | (at_builtin; refine wpList_append_own _ rfl (.tmp 84) (.tmp 86) 50 rfl w1.heap.size 52 i0 pz 4 48 Try.underlying50 Hi.out Hz0.out Hz1.out Hz2.out rfl (by decide) wv k _ rfl (Hmid.out.want.alloc _) ⟨w3.heap.size, 0, none⟩ 1 1 (PutIn.cells ⟨xkind, xnum, xu, xA, xc, xb⟩) rfl rfl ?c1 ?c2 ?c3 ?c4 ?c5 ?_) | (refine wpList_load_row rfl 52 (.tmp 7) rfl wr.heap.size rfl 52 _ (0, 0) _ Hbx3.out Try.underlying52 rfl (by kernel_rfl) ?_))
                case c1 =>
                  intro j x hx
                  rw [add_none, Nat.zero_add, cell_of_row _ _ _ _ _ _ (heap_alloc_new w3 _)]
                  have hbl : xb.length = bl := Hbl.out
                  simpa [PutIn.cells, hbl] using hx
                case c2 => exact PutIn.one _
                case c3 => unfold maxLen; omega
                case c4 => omega
                case c5 => simp; omega
                intro wv' w4 ho4 hg4 _
                obtain ⟨sb, sc, hb4⟩ := Hmid.out.grown hg4 ho4
                rw [← HM.out] at sb sc
                obtain ⟨Aw, cw, rfl, _⟩ := SlS.of_own ho4 (fun u hu => by rcases List.mem_append.1 hu with h | h; exact puts_one _ u h; exact PutIn.one _ u h)
                have Hst2 := Lib.hid (Hstep.out Hm.out sb sc ho4 hb4)
                clear sb sc ho4 hg4 d4
                go_wp2_with fail
                exact ⟨⟨i + 1, m2, c2, A2, _, _, k + 1, by omega, by omega, by go_num, rfl, rfl, rfl, Hst2.out, H201.out⟩, by simp only [intOf]; omega⟩
              · have hst2 := Hskip.out hm (by rw [HM.out]; exact Hmid.out.b) (by rw [HM.out]; exact Hmid.out.c) Hmid.out.want Hmid.out.bel
                have Hst2 := Lib.hid hst2
                have hbad : xnum < 1 ∨ (1 ≤ xnum ∧ 536870911 < xnum) := by unfold mayF at hm; omega
                clear hst2 hm
                rcases hbad with hq | ⟨hq1, hq2⟩
                · have hq3 : decide (1 ≤ xnum) = false := decide_eq_false (by omega)
                  go_wp2_with fail
                  exact ⟨⟨i + 1, m2, c2, A2, _, _, k, by omega, by omega, by go_num, rfl, rfl, rfl, Hst2.out, H201.out⟩, by simp only [intOf]; omega⟩
                · go_wp2_with fail
                  exact ⟨⟨i + 1, m2, c2, A2, _, _, k, by omega, by omega, by go_num, rfl, rfl, rfl, Hst2.out, H201.out⟩, by simp only [intOf]; omega⟩
      · obtain rfl : i = n := by omega
        have htl : ps.take i = ps := List.take_of_length_le (by rw [Hlen.out]; omega)
        obtain ⟨Ac, cc, hcv, sc⟩ := Sl.of_own Hst.out.c (nats_one _ _)
        obtain ⟨Aw, cw, hwv, sw⟩ := SlS.of_own Hst.out.want (puts_one _)
        subst hcv hwv
        have sb := Hst.out.b
        have hkk := Hst.out.hk
        have hbs := Hok.out.2.2.2
        have hbk := Hok.out.1
        have hlk := Hok.out.2.2.1
        rw [List.length_take, Hlen.out] at hlk
        have hpar := parS_puts _ hbk (by rw [Hmb.out]; omega) (by omega)
        have hp3 := parse_p Ab mb cb _ wr sb hbs (by omega)
        rw [hpar] at hp3
        have hfl : (putsF 0 (putsOf (ps.take i))).length = k := by rw [putsF_length]; unfold putsOf; rw [List.length_map]; exact hkk
        rw [htl] at sb sc sw hkk hp3 hfl
        have hwant := fun j x h => wantF ps j x h
        generalize putsF 0 (putsOf ps) = fs at *
        generalize putsB (putsOf ps) = bytes at *
        have Hp3 := Lib.hid hp3
        have Hsb := Lib.hid sb
        have Hsc := Lib.hid sc
        have Hsw := Lib.hid sw
        have Hkk := Lib.hid hkk
        have Hfl := Lib.hid hfl
        have Hwant := Lib.hid hwant
        have Hbel := Lib.hid (Hb1.out.trans (hbel.mono hw1))
        clear htl sb sc sw hkk hbs hbk hlk hpar hp3 hfl hwant Hok Hmb H200
        go_wp2_with fail
        refine Hp3.out.mono ?_
        rintro e w2 ⟨F2, m2, cF2, qs, rfl, hfl, hqs, b5⟩
        dsimp only at hqs
        obtain rfl : m2 = k := by
          have h1 := flds_len' hfl hqs
          rw [Hfl.out] at h1
          exact h1.symm
        have q1 := run_convert_sl (P := Try.prog) Try.underlying22 Try.underlying5 Try.underlying9 (Hsb.out.keep b5)
        have q2 := run_convert_sl (P := Try.prog) Try.underlying22 Try.underlying5 Try.underlying9 (Hsc.out.keep b5)
        generalize strOf bytes = str at *
        have Hfld := Lib.hid hfl
        have Hqs := Lib.hid hqs
        have Hb5 := Lib.hid b5
        have Hbel2 := Lib.hid (Hbel.out.trans (b5.mono Hbel.out.size))
        clear hfl hqs b5
        go_wp2_with fail
        go_loopw [10] (fun iv wr => ∃ (W : World) (j : Nat), W = wr ∧ j ≤ m2 ∧ iv = .int .i64 (j : Int) ∧ Below w2.heap.size w2 W) (fun iv _ => m2 - (intOf iv).toNat)
        case atStart => exact ⟨_, 0, rfl, Nat.zero_le _, rfl, Below.refl _ _⟩
        case round =>
          obtain ⟨wr2, j, hW, hj2, rfl, hbw4⟩ := hrel
          subst hW
          clear q1 q2
          have Hbw4 := Lib.hid hbw4
          have hwsz := hbw4.size
          clear hbw4
          by_cases hlt2 : j < m2
          · obtain ⟨b1, o1, rfl, hB1, hcell1⟩ := want_at (Hsw.out.keep (below_trans' Hb5.out Hbw4.out)) Hkk.out (by omega)
            obtain ⟨b2, o2, rfl, hB2, hcell2⟩ := (Hfld.out.sl.keep Hbw4.out).at5 Hfld.out.hl (by omega)
            have hjl : j < (ps.filter mayP).length := by rw [Hkk.out]; exact hlt2
            have hxj : (ps.filter mayP)[j]? = some (ps.filter mayP)[j] := List.getElem?_eq_getElem hjl
            have hxm := List.mem_filter.1 (List.getElem_mem hjl)
            obtain ⟨y0, y1, y2, y3⟩ := hcell1 j _ hxj
            obtain ⟨x0, x1, x2, x3, _⟩ := hcell2 j hlt2
            obtain ⟨at_, hat⟩ := Hwant.out j _ hxj
            have hjq : j < qs.length := by rw [Hfld.out.hl]; exact hlt2
            have hqf : (qs.getD j noFA).f = ((ps.filter mayP)[j]).put.field at_ := by
              have h1 := congrArg (fun z : List FieldV => z[j]?) Hqs.out
              simp only [hat] at h1
              simpa [hjq] using h1
            have hpf := put_field ((ps.filter mayP)[j]) (by simpa [mayP] using hxm.2) at_
            rw [← hqf] at hpf
            have hsx := ((Hfld.out.txt _ (getD_mem qs j hjq)).keep Hbw4.out).sl
            obtain ⟨b0, o0, hA0, hB0, hat0⟩ := Hp.out.at_ (by
              have := List.length_filter_le mayP ps
              rw [Hkk.out, Hlen.out] at this
              omega)
            obtain ⟨iq, hiq, hiqe⟩ := List.getElem_of_mem hxm.1
            have hxa := hat0 iq _ (List.getElem?_eq_getElem hiq)
            rw [hiqe] at hxa
            have hsy := hxa.sl.keep (Hbel2.out.trans (Hbw4.out.mono Hbel2.out.size))
            have hkb := hxa.inn.kb
            generalize (ps.filter mayP)[j] = x at *
            generalize qs.getD j noFA = q at *
            obtain ⟨⟨qn, qw, qu, qbb, qa⟩, qA, qc⟩ := q
            obtain ⟨xkind, xnum, xu, xA, xc, qb⟩ := x
            obtain ⟨p1, p2, p3, p4⟩ := hpf
            dsimp only at *
            rw [p1] at x0
            have L2 : Hid (b2 < (wr2.alloc (.cells #[.int .i64 xkind, .int .i64 xnum, .int .u64 (xu : Int), .slice xA qb.length xc] 52)).heap.size) := Lib.hid (by simp; omega)
            have LB : Hid (wr2.heap.size < (wr2.alloc (.cells #[.int .i64 xkind, .int .i64 xnum, .int .u64 (xu : Int), .slice xA qb.length xc] 52)).heap.size) := Lib.hid (by simp)
            have bxn := heap_alloc_new wr2 (.cells #[.int .i64 xkind, .int .i64 xnum, .int .u64 (xu : Int), .slice xA qb.length xc] 52)
            have Y0 : Hid ((wr2.alloc (.cells #[.int .i64 xkind, .int .i64 xnum, .int .u64 (xu : Int), .slice xA qb.length xc] 52)).cell? ⟨wr2.heap.size, 0, none⟩ = some (.int .i64 xkind)) := Lib.hid (by rw [cell_of_row _ _ _ _ _ _ bxn]; rfl)
            have Y1 : Hid ((wr2.alloc (.cells #[.int .i64 xkind, .int .i64 xnum, .int .u64 (xu : Int), .slice xA qb.length xc] 52)).cell? ⟨wr2.heap.size, 1, none⟩ = some (.int .i64 xnum)) := Lib.hid (by rw [cell_of_row _ _ _ _ _ _ bxn]; rfl)
            have Y2 : Hid ((wr2.alloc (.cells #[.int .i64 xkind, .int .i64 xnum, .int .u64 (xu : Int), .slice xA qb.length xc] 52)).cell? ⟨wr2.heap.size, 2, none⟩ = some (.int .u64 (xu : Int))) := Lib.hid (by rw [cell_of_row _ _ _ _ _ _ bxn]; rfl)
            have Y3 : Hid ((wr2.alloc (.cells #[.int .i64 xkind, .int .i64 xnum, .int .u64 (xu : Int), .slice xA qb.length xc] 52)).cell? ⟨wr2.heap.size, 3, none⟩ = some (.slice xA qb.length xc)) := Lib.hid (by rw [cell_of_row _ _ _ _ _ _ bxn]; rfl)
            have bnew := below_new wr2 (.cells #[.int .i64 xkind, .int .i64 xnum, .int .u64 (xu : Int), .slice xA qb.length xc] 52)
            have X0 := Lib.hid ((bnew.cell (p := ⟨b2, o2 + j * 5, none⟩) hB2).trans x0)
            have X1' := Lib.hid ((bnew.cell (p := ⟨b2, o2 + j * 5 + 1, none⟩) hB2).trans x1)
            have X2' := Lib.hid ((bnew.cell (p := ⟨b2, o2 + j * 5 + 2, none⟩) hB2).trans x2)
            have X3' := Lib.hid ((bnew.cell (p := ⟨b2, o2 + j * 5 + 3, none⟩) hB2).trans x3)
            have SX' := Lib.hid (hsx.keep bnew)
            have SY := Lib.hid (hsy.keep bnew)
            have P2 := Lib.hid p2
            have P3 := Lib.hid p3
            have P4 := Lib.hid p4
            clear hcell1 hcell2 x0 x1 x2 x3 hsx hsy hjl hjq hxj hat hqf hxa hat0 hiqe hiq hxm hA0 hB0 p1 p2 p3 p4 bxn bnew
            by_cases hk0 : xkind = 0
            · subst hk0
              have hw : qw = 0 := P2.out
              have hu : qu = xu := P4.out rfl
              subst hw hu
              have X1 := X1'
              have X2 := X2'
              have Hpf := X3'
              have K0 : Hid (((0 : Int) == 0) = true) := Lib.hid rfl
              clear Hpf
              go_wp2_with fail
              refine region_all _ [Fact.is (.slice (some ⟨b2, o2, none⟩) m2 cF2), Fact.is (.int .i64 (j : Int)), Fact.is (.pointer (some ⟨b2, o2 + j * 5, none⟩)), Fact.is (.pointer (some ⟨b2, o2 + j * 5, none⟩)), Fact.is (.int .i64 xnum), Fact.is (.pointer (some ⟨wr2.heap.size, 1, none⟩)), Fact.is (.int .i64 xnum), Fact.is (.bool false), Fact.is (.bool false), Fact.is (.slice (some ⟨b2, o2, none⟩) m2 cF2), Fact.is (.int .i64 (j : Int)), Fact.is (.pointer (some ⟨b2, o2 + j * 5, none⟩)), Fact.is (.pointer (some ⟨b2, o2 + j * 5 + 1, none⟩)), Fact.is (.int .i64 (0 : Int)), Fact.is (.bool false), Fact.is (.bool false), Fact.is (.bool false), Fact.is (.bool false), Fact.is (.bool false), Fact.is (.bool false), Fact.is (.bool false), Fact.any, Fact.any, Fact.any, Fact.any, Fact.any, Fact.any, Fact.any, Fact.any, Fact.any, Fact.any, Fact.is (.bool false), Fact.is (.bool false), Fact.is (.bool false), Fact.is (.pointer (some ⟨wr2.heap.size, 0, none⟩)), Fact.is (.int .i64 0), Fact.is (.bool true), Fact.is (.bool true), Fact.is (.slice (some ⟨b2, o2, none⟩) m2 cF2), Fact.is (.int .i64 (j : Int)), Fact.is (.pointer (some ⟨b2, o2 + j * 5, none⟩)), Fact.is (.pointer (some ⟨b2, o2 + j * 5 + 2, none⟩)), Fact.is (.int .u64 (qu : Int)), Fact.is (.pointer (some ⟨wr2.heap.size, 2, none⟩)), Fact.is (.int .u64 (qu : Int)), Fact.is (.bool false), Fact.is (.bool false), Fact.is (.bool false)] [[(8, none)], [(10, none)], [(127, some 0), (128, some 1)], [(129, some 2)], [(130, some 3)], [(11, none)], [(132, some 5)], [(131, some 4), (133, some 6)], [(134, some 7)], [(8, none)], [(10, none)], [(136, some 9), (137, some 10)], [(138, some 11)], [(139, some 12)], [(140, some 13)], [(12, none)], [(141, some 14), (142, some 15)], [(135, some 8), (143, some 16)], [(144, some 17)], [(12, none)], [(146, some 19)], [(8, none)], [(10, none)], [(148, some 21), (149, some 22)], [(150, some 23)], [(151, some 24)], [(152, some 25)], [(11, none)], [(154, some 27)], [(155, some 28)], [(153, some 26), (156, some 29)], [(147, some 20), (157, some 30)], [(145, some 18), (158, some 31)], [(159, some 32)], [(11, none)], [(161, some 34)], [(162, some 35)], [(163, some 36)], [(8, none)], [(10, none)], [(165, some 38), (166, some 39)], [(167, some 40)], [(168, some 41)], [(11, none)], [(170, some 43)], [(169, some 42), (171, some 44)], [(164, some 37), (172, some 45)], [(160, some 33), (173, some 46)]] [true, true, true, true, true, true, true, true, true, true, true, true, true, true, true, true, true, true, true, true, true, false, false, false, false, false, false, false, false, false, false, true, true, true, true, true, true, true, true, true, true, true, true, true, true, true, true, true] (by kernel_rfl) (by kernel_rfl) ⟨⟨?_, ?_⟩, ⟨?_, ?_⟩, ⟨?_, ?_⟩, ⟨?_, ?_⟩, ⟨?_, ?_⟩, ⟨?_, ?_⟩, ⟨?_, ?_⟩, ⟨?_, ?_⟩, ⟨?_, ?_⟩, ⟨?_, ?_⟩, ⟨?_, ?_⟩, ⟨?_, ?_⟩, ⟨?_, ?_⟩, ⟨?_, ?_⟩, ⟨?_, ?_⟩, ⟨?_, ?_⟩, ⟨?_, ?_⟩, ⟨?_, ?_⟩, ⟨?_, ?_⟩, ⟨?_, ?_⟩, ⟨?_, ?_⟩, ⟨?_, ?_⟩, ⟨?_, ?_⟩, ⟨?_, ?_⟩, ⟨?_, ?_⟩, ⟨?_, ?_⟩, ⟨?_, ?_⟩, ⟨?_, ?_⟩, ⟨?_, ?_⟩, ⟨?_, ?_⟩, ⟨?_, ?_⟩, ⟨?_, ?_⟩, ⟨?_, ?_⟩, ⟨?_, ?_⟩, ⟨?_, ?_⟩, ⟨?_, ?_⟩, ⟨?_, ?_⟩, ⟨?_, ?_⟩, ⟨?_, ?_⟩, ⟨?_, ?_⟩, ⟨?_, ?_⟩, ⟨?_, ?_⟩, ⟨?_, ?_⟩, ⟨?_, ?_⟩, ⟨?_, ?_⟩, ⟨?_, ?_⟩, ⟨?_, ?_⟩, ⟨?_, ?_⟩, trivial⟩ ?_
              · intro ρ w' hc hB h8
                refine chain_run rfl ?_
                exact opk_move rfl ⟨Below.refl _ _, h8⟩
              · exact rfl
              · intro ρ w' hc hB h10
                refine chain_run rfl ?_
                exact opk_move rfl ⟨Below.refl _ _, h10⟩
              · exact rfl
              · intro ρ w' hc hB h127 h128
                refine chain_run rfl ?_
                exact opk_idx Try.underlying24 Hj.out Hy1.out rfl h127 h128 (by omega) ⟨Below.refl _ _, by show _ = _; simp [add_none]⟩
              · exact rfl
              · intro ρ w' hc hB h129
                refine chain_run rfl ?_
                exact opk_pbf_0 rfl h129 ⟨Below.refl _ _, rfl⟩
              · exact rfl
              · intro ρ w' hc hB h130
                refine chain_run rfl ?_
                exact opk_load_int rfl h130 ((hB.cell (p := ⟨b2, o2 + j * 5, none⟩) L2.out).trans X0.out) ⟨Below.refl _ _, rfl⟩
              · exact rfl
              · intro ρ w' hc hB h11
                refine chain_run rfl ?_
                exact opk_put_1 rfl (show ρ (.tmp 11) = .pointer (some ⟨wr2.heap.size, 0, none⟩) from h11) ⟨Below.refl _ _, by show _ = _; simp⟩
              · exact rfl
              · intro ρ w' hc hB h132
                refine chain_run rfl ?_
                exact opk_load_int rfl h132 ((hB.cell (p := ⟨wr2.heap.size, 1, none⟩) LB.out).trans Y1.out) ⟨Below.refl _ _, rfl⟩
              · exact rfl
              · intro ρ w' hc hB h131 h133
                refine chain_run rfl ?_
                exact opk_neq_int rfl h131 h133 ⟨Below.refl _ _, congrArg Value.bool (by simp)⟩
              · exact rfl
              · intro ρ w' hc hB h134
                refine chain_run rfl ?_
                exact opk_move rfl ⟨Below.refl _ _, h134⟩
              · exact rfl
              · intro ρ w' hc hB h8
                refine chain_run rfl ?_
                exact opk_move rfl ⟨Below.refl _ _, h8⟩
              · exact fun v w h => ⟨false, h, rfl⟩
              · intro ρ w' hc hB h10
                refine chain_run rfl ?_
                exact opk_move rfl ⟨Below.refl _ _, h10⟩
              · exact fun v w h => ⟨false, h, rfl⟩
              · intro ρ w' hc hB h136 h137
                refine chain_run rfl ?_
                exact opk_idx Try.underlying24 Hj.out Hy1.out rfl h136 h137 (by omega) ⟨Below.refl _ _, by show _ = _; simp [add_none]⟩
              · exact fun v w h => ⟨false, h, rfl⟩
              · intro ρ w' hc hB h138
                refine chain_run rfl ?_
                exact opk_pbf_1 rfl h138 ⟨Below.refl _ _, rfl⟩
              · exact fun v w h => ⟨false, h, rfl⟩
              · intro ρ w' hc hB h139
                refine chain_run rfl ?_
                exact opk_load_int rfl h139 ((hB.cell (p := ⟨b2, o2 + j * 5 + 1, none⟩) L2.out).trans X1.out) ⟨Below.refl _ _, rfl⟩
              · exact fun v w h => ⟨false, h, rfl⟩
              · intro ρ w' hc hB h140
                refine chain_run rfl ?_
                exact opk_eql_int rfl h140 (hc.1 _) ⟨Below.refl _ _, congrArg Value.bool (by simp)⟩
              · exact fun v w h => ⟨false, h, rfl⟩
              · intro ρ w' hc hB h12
                refine chain_run rfl ?_
                exact opk_move rfl ⟨Below.refl _ _, h12⟩
              · exact fun v w h => ⟨false, h, rfl⟩
              · intro ρ w' hc hB h141 h142
                refine chain_run rfl ?_
                exact opk_neq_bool Try.underlying4 rfl h141 h142 ⟨Below.refl _ _, rfl⟩
              · exact fun v w h => ⟨false, h, rfl⟩
              · intro ρ w' hc hB h135 h143
                refine chain_run rfl ?_
                exact opk_pick rfl h135 ⟨Below.refl _ _, h143⟩
              · exact rfl
              · intro ρ w' hc hB h144
                refine chain_run rfl ?_
                exact opk_move rfl ⟨Below.refl _ _, h144⟩
              · exact rfl
              · intro ρ w' hc hB h12
                refine chain_run rfl ?_
                exact opk_move rfl ⟨Below.refl _ _, h12⟩
              · exact fun v w h => ⟨false, h, rfl⟩
              · intro ρ w' hc hB h146
                refine chain_run rfl ?_
                exact opk_move rfl ⟨Below.refl _ _, h146⟩
              · exact fun v w h => ⟨false, h, rfl⟩
              · intro ρ w' hc hB h8
                exact chain_skip rfl trivial
              · exact fun v w h => ⟨false, h, rfl⟩
              · intro ρ w' hc hB h10
                exact chain_skip rfl trivial
              · exact fun v w h => ⟨false, h, rfl⟩
              · intro ρ w' hc hB h148 h149
                exact chain_skip rfl trivial
              · exact fun v w h => ⟨false, h, rfl⟩
              · intro ρ w' hc hB h150
                exact chain_skip rfl trivial
              · exact fun v w h => ⟨false, h, rfl⟩
              · intro ρ w' hc hB h151
                exact chain_skip rfl trivial
              · exact fun v w h => ⟨false, h, rfl⟩
              · intro ρ w' hc hB h152
                exact chain_skip rfl trivial
              · exact fun v w h => ⟨false, h, rfl⟩
              · intro ρ w' hc hB h11
                exact chain_skip rfl trivial
              · exact fun v w h => ⟨false, h, rfl⟩
              · intro ρ w' hc hB h154
                exact chain_skip rfl trivial
              · exact fun v w h => ⟨false, h, rfl⟩
              · intro ρ w' hc hB h155
                exact chain_skip rfl trivial
              · exact fun v w h => ⟨false, h, rfl⟩
              · intro ρ w' hc hB h153 h156
                exact chain_skip rfl trivial
              · exact fun v w h => ⟨false, h, rfl⟩
              · intro ρ w' hc hB h147 h157
                refine chain_run rfl ?_
                exact opk_pick rfl h147 ⟨Below.refl _ _, hc.1 _⟩
              · exact fun v w h => ⟨false, h, rfl⟩
              · intro ρ w' hc hB h145 h158
                refine chain_run rfl ?_
                exact opk_pick rfl h145 ⟨Below.refl _ _, h158⟩
              · exact rfl
              · intro ρ w' hc hB h159
                refine chain_run rfl ?_
                exact opk_move rfl ⟨Below.refl _ _, h159⟩
              · exact rfl
              · intro ρ w' hc hB h11
                refine chain_run rfl ?_
                exact opk_put_0 rfl (show ρ (.tmp 11) = .pointer (some ⟨wr2.heap.size, 0, none⟩) from h11) ⟨Below.refl _ _, by show _ = _; simp⟩
              · exact fun v w h => ⟨false, h, rfl⟩
              · intro ρ w' hc hB h161
                refine chain_run rfl ?_
                exact opk_load_int rfl h161 ((hB.cell (p := ⟨wr2.heap.size, 0, none⟩) LB.out).trans Y0.out) ⟨Below.refl _ _, rfl⟩
              · exact fun v w h => ⟨false, h, rfl⟩
              · intro ρ w' hc hB h162
                refine chain_run rfl ?_
                exact opk_eql_int rfl h162 (hc.1 _) ⟨Below.refl _ _, congrArg Value.bool K0.out⟩
              · exact fun v w h => ⟨false, h, rfl⟩
              · intro ρ w' hc hB h163
                refine chain_run rfl ?_
                exact opk_move rfl ⟨Below.refl _ _, h163⟩
              · exact fun v w h => ⟨false, h, rfl⟩
              · intro ρ w' hc hB h8
                refine chain_run rfl ?_
                exact opk_move rfl ⟨Below.refl _ _, h8⟩
              · exact fun v w h => ⟨true, h, rfl⟩
              · intro ρ w' hc hB h10
                refine chain_run rfl ?_
                exact opk_move rfl ⟨Below.refl _ _, h10⟩
              · exact fun v w h => ⟨true, h, rfl⟩
              · intro ρ w' hc hB h165 h166
                refine chain_run rfl ?_
                exact opk_idx Try.underlying24 Hj.out Hy1.out rfl h165 h166 (by omega) ⟨Below.refl _ _, by show _ = _; simp [add_none]⟩
              · exact fun v w h => ⟨true, h, rfl⟩
              · intro ρ w' hc hB h167
                refine chain_run rfl ?_
                exact opk_pbf_2 rfl h167 ⟨Below.refl _ _, rfl⟩
              · exact fun v w h => ⟨true, h, rfl⟩
              · intro ρ w' hc hB h168
                refine chain_run rfl ?_
                exact opk_load_u64 rfl h168 ((hB.cell (p := ⟨b2, o2 + j * 5 + 2, none⟩) L2.out).trans X2.out) ⟨Below.refl _ _, rfl⟩
              · exact fun v w h => ⟨true, h, rfl⟩
              · intro ρ w' hc hB h11
                refine chain_run rfl ?_
                exact opk_put_2 rfl (show ρ (.tmp 11) = .pointer (some ⟨wr2.heap.size, 0, none⟩) from h11) ⟨Below.refl _ _, by show _ = _; simp⟩
              · exact fun v w h => ⟨true, h, rfl⟩
              · intro ρ w' hc hB h170
                refine chain_run rfl ?_
                exact opk_load_u64 rfl h170 ((hB.cell (p := ⟨wr2.heap.size, 2, none⟩) LB.out).trans Y2.out) ⟨Below.refl _ _, rfl⟩
              · exact fun v w h => ⟨true, h, rfl⟩
              · intro ρ w' hc hB h169 h171
                refine chain_run rfl ?_
                exact opk_neq_int rfl h169 h171 ⟨Below.refl _ _, congrArg Value.bool (by simp)⟩
              · exact fun v w h => ⟨true, h, rfl⟩
              · intro ρ w' hc hB h164 h172
                refine chain_run rfl ?_
                exact opk_pick rfl h164 ⟨Below.refl _ _, h172⟩
              · exact fun v w h => ⟨false, h, rfl⟩
              · intro ρ w' hc hB h160 h173
                refine chain_run rfl ?_
                exact opk_pick rfl h160 ⟨Below.refl _ _, h173⟩
              · exact rfl
              intro a' w5 hbe hsz hd hF hU
              have e5 : a'.tmps.getD 174 undef = .bool false := hF 47 _ 174 rfl rfl
              obtain ⟨f, hf, hlit⟩ := act_mask a' _ _ [127, 128, 129, 130, 131, 132, 133, 134, 135, 136, 137, 138, 139, 140, 141, 142, 143, 144, 145, 146, 147, 148, 149, 150, 151, 152, 153, 154, 155, 156, 157, 158, 159, 160, 161, 162, 163, 164, 165, 166, 167, 168, 169, 170, 171, 172, 173, 174] [false, false, false, false, false, false, false, false, false, false, false, false, false, false, false, false, false, false, false, false, false, false, false, false, false, false, false, false, false, false, false, false, false, false, false, false, false, false, false, false, false, false, false, false, false, false, false, false, false, false, false, false, false, false, false, false, false, false, false, false, false, false, false, false, false, false, false, false, false, false, false, false, false, false, false, false, false, false, false, false, false, false, false, false, false, false, false, false, false, false, false, false, false, false, false, false, false, false, false, false, false, false, false, false, false, false, false, false, false, false, false, false, false, false, false, false, false, false, false, false, false, false, false, false, false, false, false, true, true, true, true, true, true, true, true, true, true, true, true, true, true, true, true, true, true, true, true, true, true, true, true, true, true, true, true, true, true, true, true, true, true, true, true, true, true, true, true, true, true, true, true, true, true, true, true] hsz hd rfl rfl (fun t ht => hU t (by
                intro i o ho hod
                have := List.mem_filterMap.2 ⟨o, List.mem_of_getElem? ho, hod⟩
                revert this
                exact fun h => ht (by simpa using h)))
              replace hlit : a' = ⟨#[_, _, _, _, _, _, _, _, _, _, _, _, _, _, _, _, _, _, _, _, _, _, _, _, _, _, _, _, _, _, _, _, _, _, _, _, _, _, _, _, _, _, _, _, _, _, _, _, _, _, _, _, _, _, _, _, _, _, _, _, _, _, _, _, _, _, _, _, _, _, _, _, _, _, _, _, _, _, _, _, _, _, _, _, _, _, _, _, _, _, _, _, _, _, _, _, _, _, _, _, _, _, _, _, _, _, _, _, _, _, _, _, _, _, _, _, _, _, _, _, _, _, _, _, _, _, _, f 127, f 128, f 129, f 130, f 131, f 132, f 133, f 134, f 135, f 136, f 137, f 138, f 139, f 140, f 141, f 142, f 143, f 144, f 145, f 146, f 147, f 148, f 149, f 150, f 151, f 152, f 153, f 154, f 155, f 156, f 157, f 158, f 159, f 160, f 161, f 162, f 163, f 164, f 165, f 166, f 167, f 168, f 169, f 170, f 171, f 172, f 173, f 174], _⟩ := hlit.trans (by rfl)
              rw [← hf] at e5
              rw [hlit, e5]
              clear hF hU hlit hf hsz hd
              have Hb5 := Lib.hid ((Hbw4.out.alloc Hbw4.out.size _).trans (hbe.mono (by simp; have := Hbw4.out.size; omega)))
              clear e5 hbe
              go_wp2_with fail
              exact ⟨⟨_, j + 1, rfl, by omega, by go_num, Hb5.out⟩, by simp only [intOf]; omega⟩
            · by_cases hk1 : xkind = 1
              · subst hk1
                have hw : qw = 0 := P2.out
                subst hw
                have X1 := X1'
                have Hpf := X3'
                have K0 : Hid (((1 : Int) == 0) = false) := Lib.hid rfl
                clear Hpf
                go_wp2_with fail
                refine region_all _ [Fact.is (.slice (some ⟨b2, o2, none⟩) m2 cF2), Fact.is (.int .i64 (j : Int)), Fact.is (.pointer (some ⟨b2, o2 + j * 5, none⟩)), Fact.is (.pointer (some ⟨b2, o2 + j * 5, none⟩)), Fact.is (.int .i64 xnum), Fact.is (.pointer (some ⟨wr2.heap.size, 1, none⟩)), Fact.is (.int .i64 xnum), Fact.is (.bool false), Fact.is (.bool false), Fact.is (.slice (some ⟨b2, o2, none⟩) m2 cF2), Fact.is (.int .i64 (j : Int)), Fact.is (.pointer (some ⟨b2, o2 + j * 5, none⟩)), Fact.is (.pointer (some ⟨b2, o2 + j * 5 + 1, none⟩)), Fact.is (.int .i64 (0 : Int)), Fact.is (.bool false), Fact.is (.bool false), Fact.is (.bool false), Fact.is (.bool false), Fact.is (.bool false), Fact.is (.bool false), Fact.is (.bool false), Fact.any, Fact.any, Fact.any, Fact.any, Fact.any, Fact.any, Fact.any, Fact.any, Fact.any, Fact.any, Fact.is (.bool false), Fact.is (.bool false), Fact.is (.bool false), Fact.is (.pointer (some ⟨wr2.heap.size, 0, none⟩)), Fact.is (.int .i64 1), Fact.is (.bool false), Fact.is (.bool false), Fact.any, Fact.any, Fact.any, Fact.any, Fact.any, Fact.any, Fact.any, Fact.any, Fact.is (.bool false), Fact.is (.bool false)] [[(8, none)], [(10, none)], [(127, some 0), (128, some 1)], [(129, some 2)], [(130, some 3)], [(11, none)], [(132, some 5)], [(131, some 4), (133, some 6)], [(134, some 7)], [(8, none)], [(10, none)], [(136, some 9), (137, some 10)], [(138, some 11)], [(139, some 12)], [(140, some 13)], [(12, none)], [(141, some 14), (142, some 15)], [(135, some 8), (143, some 16)], [(144, some 17)], [(12, none)], [(146, some 19)], [(8, none)], [(10, none)], [(148, some 21), (149, some 22)], [(150, some 23)], [(151, some 24)], [(152, some 25)], [(11, none)], [(154, some 27)], [(155, some 28)], [(153, some 26), (156, some 29)], [(147, some 20), (157, some 30)], [(145, some 18), (158, some 31)], [(159, some 32)], [(11, none)], [(161, some 34)], [(162, some 35)], [(163, some 36)], [(8, none)], [(10, none)], [(165, some 38), (166, some 39)], [(167, some 40)], [(168, some 41)], [(11, none)], [(170, some 43)], [(169, some 42), (171, some 44)], [(164, some 37), (172, some 45)], [(160, some 33), (173, some 46)]] [true, true, true, true, true, true, true, true, true, true, true, true, true, true, true, true, true, true, true, true, true, false, false, false, false, false, false, false, false, false, false, true, true, true, true, true, true, true, false, false, false, false, false, false, false, false, true, true] (by kernel_rfl) (by kernel_rfl) ⟨⟨?_, ?_⟩, ⟨?_, ?_⟩, ⟨?_, ?_⟩, ⟨?_, ?_⟩, ⟨?_, ?_⟩, ⟨?_, ?_⟩, ⟨?_, ?_⟩, ⟨?_, ?_⟩, ⟨?_, ?_⟩, ⟨?_, ?_⟩, ⟨?_, ?_⟩, ⟨?_, ?_⟩, ⟨?_, ?_⟩, ⟨?_, ?_⟩, ⟨?_, ?_⟩, ⟨?_, ?_⟩, ⟨?_, ?_⟩, ⟨?_, ?_⟩, ⟨?_, ?_⟩, ⟨?_, ?_⟩, ⟨?_, ?_⟩, ⟨?_, ?_⟩, ⟨?_, ?_⟩, ⟨?_, ?_⟩, ⟨?_, ?_⟩, ⟨?_, ?_⟩, ⟨?_, ?_⟩, ⟨?_, ?_⟩, ⟨?_, ?_⟩, ⟨?_, ?_⟩, ⟨?_, ?_⟩, ⟨?_, ?_⟩, ⟨?_, ?_⟩, ⟨?_, ?_⟩, ⟨?_, ?_⟩, ⟨?_, ?_⟩, ⟨?_, ?_⟩, ⟨?_, ?_⟩, ⟨?_, ?_⟩, ⟨?_, ?_⟩, ⟨?_, ?_⟩, ⟨?_, ?_⟩, ⟨?_, ?_⟩, ⟨?_, ?_⟩, ⟨?_, ?_⟩, ⟨?_, ?_⟩, ⟨?_, ?_⟩, ⟨?_, ?_⟩, trivial⟩ ?_
                · intro ρ w' hc hB h8
                  refine chain_run rfl ?_
                  exact opk_move rfl ⟨Below.refl _ _, h8⟩
                · exact rfl
                · intro ρ w' hc hB h10
                  refine chain_run rfl ?_
                  exact opk_move rfl ⟨Below.refl _ _, h10⟩
                · exact rfl
                · intro ρ w' hc hB h127 h128
                  refine chain_run rfl ?_
                  exact opk_idx Try.underlying24 Hj.out Hy1.out rfl h127 h128 (by omega) ⟨Below.refl _ _, by show _ = _; simp [add_none]⟩
                · exact rfl
                · intro ρ w' hc hB h129
                  refine chain_run rfl ?_
                  exact opk_pbf_0 rfl h129 ⟨Below.refl _ _, rfl⟩
                · exact rfl
                · intro ρ w' hc hB h130
                  refine chain_run rfl ?_
                  exact opk_load_int rfl h130 ((hB.cell (p := ⟨b2, o2 + j * 5, none⟩) L2.out).trans X0.out) ⟨Below.refl _ _, rfl⟩
                · exact rfl
                · intro ρ w' hc hB h11
                  refine chain_run rfl ?_
                  exact opk_put_1 rfl (show ρ (.tmp 11) = .pointer (some ⟨wr2.heap.size, 0, none⟩) from h11) ⟨Below.refl _ _, by show _ = _; simp⟩
                · exact rfl
                · intro ρ w' hc hB h132
                  refine chain_run rfl ?_
                  exact opk_load_int rfl h132 ((hB.cell (p := ⟨wr2.heap.size, 1, none⟩) LB.out).trans Y1.out) ⟨Below.refl _ _, rfl⟩
                · exact rfl
                · intro ρ w' hc hB h131 h133
                  refine chain_run rfl ?_
                  exact opk_neq_int rfl h131 h133 ⟨Below.refl _ _, congrArg Value.bool (by simp)⟩
                · exact rfl
                · intro ρ w' hc hB h134
                  refine chain_run rfl ?_
                  exact opk_move rfl ⟨Below.refl _ _, h134⟩
                · exact rfl
                · intro ρ w' hc hB h8
                  refine chain_run rfl ?_
                  exact opk_move rfl ⟨Below.refl _ _, h8⟩
                · exact fun v w h => ⟨false, h, rfl⟩
                · intro ρ w' hc hB h10
                  refine chain_run rfl ?_
                  exact opk_move rfl ⟨Below.refl _ _, h10⟩
                · exact fun v w h => ⟨false, h, rfl⟩
                · intro ρ w' hc hB h136 h137
                  refine chain_run rfl ?_
                  exact opk_idx Try.underlying24 Hj.out Hy1.out rfl h136 h137 (by omega) ⟨Below.refl _ _, by show _ = _; simp [add_none]⟩
                · exact fun v w h => ⟨false, h, rfl⟩
                · intro ρ w' hc hB h138
                  refine chain_run rfl ?_
                  exact opk_pbf_1 rfl h138 ⟨Below.refl _ _, rfl⟩
                · exact fun v w h => ⟨false, h, rfl⟩
                · intro ρ w' hc hB h139
                  refine chain_run rfl ?_
                  exact opk_load_int rfl h139 ((hB.cell (p := ⟨b2, o2 + j * 5 + 1, none⟩) L2.out).trans X1.out) ⟨Below.refl _ _, rfl⟩
                · exact fun v w h => ⟨false, h, rfl⟩
                · intro ρ w' hc hB h140
                  refine chain_run rfl ?_
                  exact opk_eql_int rfl h140 (hc.1 _) ⟨Below.refl _ _, congrArg Value.bool (by simp)⟩
                · exact fun v w h => ⟨false, h, rfl⟩
                · intro ρ w' hc hB h12
                  refine chain_run rfl ?_
                  exact opk_move rfl ⟨Below.refl _ _, h12⟩
                · exact fun v w h => ⟨false, h, rfl⟩
                · intro ρ w' hc hB h141 h142
                  refine chain_run rfl ?_
                  exact opk_neq_bool Try.underlying4 rfl h141 h142 ⟨Below.refl _ _, rfl⟩
                · exact fun v w h => ⟨false, h, rfl⟩
                · intro ρ w' hc hB h135 h143
                  refine chain_run rfl ?_
                  exact opk_pick rfl h135 ⟨Below.refl _ _, h143⟩
                · exact rfl
                · intro ρ w' hc hB h144
                  refine chain_run rfl ?_
                  exact opk_move rfl ⟨Below.refl _ _, h144⟩
                · exact rfl
                · intro ρ w' hc hB h12
                  refine chain_run rfl ?_
                  exact opk_move rfl ⟨Below.refl _ _, h12⟩
                · exact fun v w h => ⟨false, h, rfl⟩
                · intro ρ w' hc hB h146
                  refine chain_run rfl ?_
                  exact opk_move rfl ⟨Below.refl _ _, h146⟩
                · exact fun v w h => ⟨false, h, rfl⟩
                · intro ρ w' hc hB h8
                  exact chain_skip rfl trivial
                · exact fun v w h => ⟨false, h, rfl⟩
                · intro ρ w' hc hB h10
                  exact chain_skip rfl trivial
                · exact fun v w h => ⟨false, h, rfl⟩
                · intro ρ w' hc hB h148 h149
                  exact chain_skip rfl trivial
                · exact fun v w h => ⟨false, h, rfl⟩
                · intro ρ w' hc hB h150
                  exact chain_skip rfl trivial
                · exact fun v w h => ⟨false, h, rfl⟩
                · intro ρ w' hc hB h151
                  exact chain_skip rfl trivial
                · exact fun v w h => ⟨false, h, rfl⟩
                · intro ρ w' hc hB h152
                  exact chain_skip rfl trivial
                · exact fun v w h => ⟨false, h, rfl⟩
                · intro ρ w' hc hB h11
                  exact chain_skip rfl trivial
                · exact fun v w h => ⟨false, h, rfl⟩
                · intro ρ w' hc hB h154
                  exact chain_skip rfl trivial
                · exact fun v w h => ⟨false, h, rfl⟩
                · intro ρ w' hc hB h155
                  exact chain_skip rfl trivial
                · exact fun v w h => ⟨false, h, rfl⟩
                · intro ρ w' hc hB h153 h156
                  exact chain_skip rfl trivial
                · exact fun v w h => ⟨false, h, rfl⟩
                · intro ρ w' hc hB h147 h157
                  refine chain_run rfl ?_
                  exact opk_pick rfl h147 ⟨Below.refl _ _, hc.1 _⟩
                · exact fun v w h => ⟨false, h, rfl⟩
                · intro ρ w' hc hB h145 h158
                  refine chain_run rfl ?_
                  exact opk_pick rfl h145 ⟨Below.refl _ _, h158⟩
                · exact rfl
                · intro ρ w' hc hB h159
                  refine chain_run rfl ?_
                  exact opk_move rfl ⟨Below.refl _ _, h159⟩
                · exact rfl
                · intro ρ w' hc hB h11
                  refine chain_run rfl ?_
                  exact opk_put_0 rfl (show ρ (.tmp 11) = .pointer (some ⟨wr2.heap.size, 0, none⟩) from h11) ⟨Below.refl _ _, by show _ = _; simp⟩
                · exact fun v w h => ⟨false, h, rfl⟩
                · intro ρ w' hc hB h161
                  refine chain_run rfl ?_
                  exact opk_load_int rfl h161 ((hB.cell (p := ⟨wr2.heap.size, 0, none⟩) LB.out).trans Y0.out) ⟨Below.refl _ _, rfl⟩
                · exact fun v w h => ⟨false, h, rfl⟩
                · intro ρ w' hc hB h162
                  refine chain_run rfl ?_
                  exact opk_eql_int rfl h162 (hc.1 _) ⟨Below.refl _ _, congrArg Value.bool K0.out⟩
                · exact fun v w h => ⟨false, h, rfl⟩
                · intro ρ w' hc hB h163
                  refine chain_run rfl ?_
                  exact opk_move rfl ⟨Below.refl _ _, h163⟩
                · exact fun v w h => ⟨false, h, rfl⟩
                · intro ρ w' hc hB h8
                  exact chain_skip rfl trivial
                · exact fun v w h => ⟨false, h, rfl⟩
                · intro ρ w' hc hB h10
                  exact chain_skip rfl trivial
                · exact fun v w h => ⟨false, h, rfl⟩
                · intro ρ w' hc hB h165 h166
                  exact chain_skip rfl trivial
                · exact fun v w h => ⟨false, h, rfl⟩
                · intro ρ w' hc hB h167
                  exact chain_skip rfl trivial
                · exact fun v w h => ⟨false, h, rfl⟩
                · intro ρ w' hc hB h168
                  exact chain_skip rfl trivial
                · exact fun v w h => ⟨false, h, rfl⟩
                · intro ρ w' hc hB h11
                  exact chain_skip rfl trivial
                · exact fun v w h => ⟨false, h, rfl⟩
                · intro ρ w' hc hB h170
                  exact chain_skip rfl trivial
                · exact fun v w h => ⟨false, h, rfl⟩
                · intro ρ w' hc hB h169 h171
                  exact chain_skip rfl trivial
                · exact fun v w h => ⟨false, h, rfl⟩
                · intro ρ w' hc hB h164 h172
                  refine chain_run rfl ?_
                  exact opk_pick rfl h164 ⟨Below.refl _ _, hc.1 _⟩
                · exact fun v w h => ⟨false, h, rfl⟩
                · intro ρ w' hc hB h160 h173
                  refine chain_run rfl ?_
                  exact opk_pick rfl h160 ⟨Below.refl _ _, h173⟩
                · exact rfl
                intro a' w5 hbe hsz hd hF hU
                have e5 : a'.tmps.getD 174 undef = .bool false := hF 47 _ 174 rfl rfl
                obtain ⟨f, hf, hlit⟩ := act_mask a' _ _ [127, 128, 129, 130, 131, 132, 133, 134, 135, 136, 137, 138, 139, 140, 141, 142, 143, 144, 145, 146, 147, 148, 149, 150, 151, 152, 153, 154, 155, 156, 157, 158, 159, 160, 161, 162, 163, 164, 165, 166, 167, 168, 169, 170, 171, 172, 173, 174] [false, false, false, false, false, false, false, false, false, false, false, false, false, false, false, false, false, false, false, false, false, false, false, false, false, false, false, false, false, false, false, false, false, false, false, false, false, false, false, false, false, false, false, false, false, false, false, false, false, false, false, false, false, false, false, false, false, false, false, false, false, false, false, false, false, false, false, false, false, false, false, false, false, false, false, false, false, false, false, false, false, false, false, false, false, false, false, false, false, false, false, false, false, false, false, false, false, false, false, false, false, false, false, false, false, false, false, false, false, false, false, false, false, false, false, false, false, false, false, false, false, false, false, false, false, false, false, true, true, true, true, true, true, true, true, true, true, true, true, true, true, true, true, true, true, true, true, true, true, true, true, true, true, true, true, true, true, true, true, true, true, true, true, true, true, true, true, true, true, true, true, true, true, true, true] hsz hd rfl rfl (fun t ht => hU t (by
                  intro i o ho hod
                  have := List.mem_filterMap.2 ⟨o, List.mem_of_getElem? ho, hod⟩
                  revert this
                  exact fun h => ht (by simpa using h)))
                replace hlit : a' = ⟨#[_, _, _, _, _, _, _, _, _, _, _, _, _, _, _, _, _, _, _, _, _, _, _, _, _, _, _, _, _, _, _, _, _, _, _, _, _, _, _, _, _, _, _, _, _, _, _, _, _, _, _, _, _, _, _, _, _, _, _, _, _, _, _, _, _, _, _, _, _, _, _, _, _, _, _, _, _, _, _, _, _, _, _, _, _, _, _, _, _, _, _, _, _, _, _, _, _, _, _, _, _, _, _, _, _, _, _, _, _, _, _, _, _, _, _, _, _, _, _, _, _, _, _, _, _, _, _, f 127, f 128, f 129, f 130, f 131, f 132, f 133, f 134, f 135, f 136, f 137, f 138, f 139, f 140, f 141, f 142, f 143, f 144, f 145, f 146, f 147, f 148, f 149, f 150, f 151, f 152, f 153, f 154, f 155, f 156, f 157, f 158, f 159, f 160, f 161, f 162, f 163, f 164, f 165, f 166, f 167, f 168, f 169, f 170, f 171, f 172, f 173, f 174], _⟩ := hlit.trans (by rfl)
                rw [← hf] at e5
                rw [hlit, e5]
                clear hF hU hlit hf hsz hd
                have Hb5 := Lib.hid ((Hbw4.out.alloc Hbw4.out.size _).trans (hbe.mono (by simp; have := Hbw4.out.size; omega)))
                clear e5 hbe
                go_wp2_with fail
                exact ⟨⟨_, j + 1, rfl, by omega, by go_num, Hb5.out⟩, by simp only [intOf]; omega⟩
              · have hw : qw = 2 := by
                  have := P2.out
                  have ht : PutIn.text ⟨xkind, xnum, xu, xA, xc, qb⟩ = true := by simp [PutIn.text, hk0, hk1]
                  rw [ht] at this
                  exact this
                have hbq : qbb = qb := P3.out (by simp [PutIn.text, hk0, hk1])
                subst hw hbq
                have X1 := X1'
                have X3 := X3'
                have SX := SX'
                have Hpf := X3'
                have e0 : (xkind != 0) = true := by simpa using hk0
                have e1 : (xkind != 1) = true := by simpa using hk1
                have K0 : Hid ((xkind == 0) = false) := Lib.hid (beq_eq_false_iff_ne.2 hk0)
                clear Hpf
                go_wp2_with fail
                refine region_all _ [Fact.is (.slice (some ⟨b2, o2, none⟩) m2 cF2), Fact.is (.int .i64 (j : Int)), Fact.is (.pointer (some ⟨b2, o2 + j * 5, none⟩)), Fact.is (.pointer (some ⟨b2, o2 + j * 5, none⟩)), Fact.is (.int .i64 xnum), Fact.is (.pointer (some ⟨wr2.heap.size, 1, none⟩)), Fact.is (.int .i64 xnum), Fact.is (.bool false), Fact.is (.bool false), Fact.is (.slice (some ⟨b2, o2, none⟩) m2 cF2), Fact.is (.int .i64 (j : Int)), Fact.is (.pointer (some ⟨b2, o2 + j * 5, none⟩)), Fact.is (.pointer (some ⟨b2, o2 + j * 5 + 1, none⟩)), Fact.is (.int .i64 (2 : Int)), Fact.is (.bool true), Fact.is (.bool true), Fact.is (.bool false), Fact.is (.bool false), Fact.is (.bool false), Fact.is (.bool true), Fact.is (.bool true), Fact.is (.slice (some ⟨b2, o2, none⟩) m2 cF2), Fact.is (.int .i64 (j : Int)), Fact.is (.pointer (some ⟨b2, o2 + j * 5, none⟩)), Fact.is (.pointer (some ⟨b2, o2 + j * 5 + 3, none⟩)), Fact.sl qbb.length (nats .u8 qbb), Fact.is (.string (strOf qbb)), Fact.is (.pointer (some ⟨wr2.heap.size, 3, none⟩)), Fact.sl qbb.length (nats .u8 qbb), Fact.is (.string (strOf qbb)), Fact.is (.bool false), Fact.is (.bool false), Fact.is (.bool false), Fact.is (.bool false), Fact.is (.pointer (some ⟨wr2.heap.size, 0, none⟩)), Fact.is (.int .i64 xkind), Fact.is (.bool false), Fact.is (.bool false), Fact.any, Fact.any, Fact.any, Fact.any, Fact.any, Fact.any, Fact.any, Fact.any, Fact.is (.bool false), Fact.is (.bool false)] [[(8, none)], [(10, none)], [(127, some 0), (128, some 1)], [(129, some 2)], [(130, some 3)], [(11, none)], [(132, some 5)], [(131, some 4), (133, some 6)], [(134, some 7)], [(8, none)], [(10, none)], [(136, some 9), (137, some 10)], [(138, some 11)], [(139, some 12)], [(140, some 13)], [(12, none)], [(141, some 14), (142, some 15)], [(135, some 8), (143, some 16)], [(144, some 17)], [(12, none)], [(146, some 19)], [(8, none)], [(10, none)], [(148, some 21), (149, some 22)], [(150, some 23)], [(151, some 24)], [(152, some 25)], [(11, none)], [(154, some 27)], [(155, some 28)], [(153, some 26), (156, some 29)], [(147, some 20), (157, some 30)], [(145, some 18), (158, some 31)], [(159, some 32)], [(11, none)], [(161, some 34)], [(162, some 35)], [(163, some 36)], [(8, none)], [(10, none)], [(165, some 38), (166, some 39)], [(167, some 40)], [(168, some 41)], [(11, none)], [(170, some 43)], [(169, some 42), (171, some 44)], [(164, some 37), (172, some 45)], [(160, some 33), (173, some 46)]] [true, true, true, true, true, true, true, true, true, true, true, true, true, true, true, true, true, true, true, true, true, true, true, true, true, true, true, true, true, true, true, true, true, true, true, true, true, true, false, false, false, false, false, false, false, false, true, true] (by kernel_rfl) (by kernel_rfl) ⟨⟨?_, ?_⟩, ⟨?_, ?_⟩, ⟨?_, ?_⟩, ⟨?_, ?_⟩, ⟨?_, ?_⟩, ⟨?_, ?_⟩, ⟨?_, ?_⟩, ⟨?_, ?_⟩, ⟨?_, ?_⟩, ⟨?_, ?_⟩, ⟨?_, ?_⟩, ⟨?_, ?_⟩, ⟨?_, ?_⟩, ⟨?_, ?_⟩, ⟨?_, ?_⟩, ⟨?_, ?_⟩, ⟨?_, ?_⟩, ⟨?_, ?_⟩, ⟨?_, ?_⟩, ⟨?_, ?_⟩, ⟨?_, ?_⟩, ⟨?_, ?_⟩, ⟨?_, ?_⟩, ⟨?_, ?_⟩, ⟨?_, ?_⟩, ⟨?_, ?_⟩, ⟨?_, ?_⟩, ⟨?_, ?_⟩, ⟨?_, ?_⟩, ⟨?_, ?_⟩, ⟨?_, ?_⟩, ⟨?_, ?_⟩, ⟨?_, ?_⟩, ⟨?_, ?_⟩, ⟨?_, ?_⟩, ⟨?_, ?_⟩, ⟨?_, ?_⟩, ⟨?_, ?_⟩, ⟨?_, ?_⟩, ⟨?_, ?_⟩, ⟨?_, ?_⟩, ⟨?_, ?_⟩, ⟨?_, ?_⟩, ⟨?_, ?_⟩, ⟨?_, ?_⟩, ⟨?_, ?_⟩, ⟨?_, ?_⟩, ⟨?_, ?_⟩, trivial⟩ ?_
                · intro ρ w' hc hB h8
                  refine chain_run rfl ?_
                  exact opk_move rfl ⟨Below.refl _ _, h8⟩
                · exact rfl
                · intro ρ w' hc hB h10
                  refine chain_run rfl ?_
                  exact opk_move rfl ⟨Below.refl _ _, h10⟩
                · exact rfl
                · intro ρ w' hc hB h127 h128
                  refine chain_run rfl ?_
                  exact opk_idx Try.underlying24 Hj.out Hy1.out rfl h127 h128 (by omega) ⟨Below.refl _ _, by show _ = _; simp [add_none]⟩
                · exact rfl
                · intro ρ w' hc hB h129
                  refine chain_run rfl ?_
                  exact opk_pbf_0 rfl h129 ⟨Below.refl _ _, rfl⟩
                · exact rfl
                · intro ρ w' hc hB h130
                  refine chain_run rfl ?_
                  exact opk_load_int rfl h130 ((hB.cell (p := ⟨b2, o2 + j * 5, none⟩) L2.out).trans X0.out) ⟨Below.refl _ _, rfl⟩
                · exact rfl
                · intro ρ w' hc hB h11
                  refine chain_run rfl ?_
                  exact opk_put_1 rfl (show ρ (.tmp 11) = .pointer (some ⟨wr2.heap.size, 0, none⟩) from h11) ⟨Below.refl _ _, by show _ = _; simp⟩
                · exact rfl
                · intro ρ w' hc hB h132
                  refine chain_run rfl ?_
                  exact opk_load_int rfl h132 ((hB.cell (p := ⟨wr2.heap.size, 1, none⟩) LB.out).trans Y1.out) ⟨Below.refl _ _, rfl⟩
                · exact rfl
                · intro ρ w' hc hB h131 h133
                  refine chain_run rfl ?_
                  exact opk_neq_int rfl h131 h133 ⟨Below.refl _ _, congrArg Value.bool (by simp)⟩
                · exact rfl
                · intro ρ w' hc hB h134
                  refine chain_run rfl ?_
                  exact opk_move rfl ⟨Below.refl _ _, h134⟩
                · exact rfl
                · intro ρ w' hc hB h8
                  refine chain_run rfl ?_
                  exact opk_move rfl ⟨Below.refl _ _, h8⟩
                · exact fun v w h => ⟨false, h, rfl⟩
                · intro ρ w' hc hB h10
                  refine chain_run rfl ?_
                  exact opk_move rfl ⟨Below.refl _ _, h10⟩
                · exact fun v w h => ⟨false, h, rfl⟩
                · intro ρ w' hc hB h136 h137
                  refine chain_run rfl ?_
                  exact opk_idx Try.underlying24 Hj.out Hy1.out rfl h136 h137 (by omega) ⟨Below.refl _ _, by show _ = _; simp [add_none]⟩
                · exact fun v w h => ⟨false, h, rfl⟩
                · intro ρ w' hc hB h138
                  refine chain_run rfl ?_
                  exact opk_pbf_1 rfl h138 ⟨Below.refl _ _, rfl⟩
                · exact fun v w h => ⟨false, h, rfl⟩
                · intro ρ w' hc hB h139
                  refine chain_run rfl ?_
                  exact opk_load_int rfl h139 ((hB.cell (p := ⟨b2, o2 + j * 5 + 1, none⟩) L2.out).trans X1.out) ⟨Below.refl _ _, rfl⟩
                · exact fun v w h => ⟨false, h, rfl⟩
                · intro ρ w' hc hB h140
                  refine chain_run rfl ?_
                  exact opk_eql_int rfl h140 (hc.1 _) ⟨Below.refl _ _, congrArg Value.bool (by simp)⟩
                · exact fun v w h => ⟨false, h, rfl⟩
                · intro ρ w' hc hB h12
                  refine chain_run rfl ?_
                  exact opk_move rfl ⟨Below.refl _ _, h12⟩
                · exact fun v w h => ⟨false, h, rfl⟩
                · intro ρ w' hc hB h141 h142
                  refine chain_run rfl ?_
                  exact opk_neq_bool Try.underlying4 rfl h141 h142 ⟨Below.refl _ _, rfl⟩
                · exact fun v w h => ⟨false, h, rfl⟩
                · intro ρ w' hc hB h135 h143
                  refine chain_run rfl ?_
                  exact opk_pick rfl h135 ⟨Below.refl _ _, h143⟩
                · exact rfl
                · intro ρ w' hc hB h144
                  refine chain_run rfl ?_
                  exact opk_move rfl ⟨Below.refl _ _, h144⟩
                · exact rfl
                · intro ρ w' hc hB h12
                  refine chain_run rfl ?_
                  exact opk_move rfl ⟨Below.refl _ _, h12⟩
                · exact fun v w h => ⟨false, h, rfl⟩
                · intro ρ w' hc hB h146
                  refine chain_run rfl ?_
                  exact opk_move rfl ⟨Below.refl _ _, h146⟩
                · exact fun v w h => ⟨false, h, rfl⟩
                · intro ρ w' hc hB h8
                  refine chain_run rfl ?_
                  exact opk_move rfl ⟨Below.refl _ _, h8⟩
                · exact fun v w h => ⟨true, h, rfl⟩
                · intro ρ w' hc hB h10
                  refine chain_run rfl ?_
                  exact opk_move rfl ⟨Below.refl _ _, h10⟩
                · exact fun v w h => ⟨true, h, rfl⟩
                · intro ρ w' hc hB h148 h149
                  refine chain_run rfl ?_
                  exact opk_idx Try.underlying24 Hj.out Hy1.out rfl h148 h149 (by omega) ⟨Below.refl _ _, by show _ = _; simp [add_none]⟩
                · exact fun v w h => ⟨true, h, rfl⟩
                · intro ρ w' hc hB h150
                  refine chain_run rfl ?_
                  exact opk_pbf_3 rfl h150 ⟨Below.refl _ _, rfl⟩
                · exact fun v w h => ⟨true, h, rfl⟩
                · intro ρ w' hc hB h151
                  refine chain_run rfl ?_
                  exact opk_load_slice rfl h151 ((hB.cell (p := ⟨b2, o2 + j * 5 + 3, none⟩) L2.out).trans X3.out) ⟨Below.refl _ _, ⟨_, _, rfl, (SX.out).keep hB⟩⟩
                · exact fun v w h => ⟨true, h, rfl⟩
                · intro ρ w' hc hB h152
                  refine chain_run rfl ?_
                  obtain ⟨A_, c_, e_, s_⟩ := h152
                  exact opk_str rfl Try.underlying22 Try.underlying5 Try.underlying9 e_ s_ ⟨Below.refl _ _, rfl⟩
                · exact fun v w h => ⟨true, h, rfl⟩
                · intro ρ w' hc hB h11
                  refine chain_run rfl ?_
                  exact opk_put_3 rfl (show ρ (.tmp 11) = .pointer (some ⟨wr2.heap.size, 0, none⟩) from h11) ⟨Below.refl _ _, by show _ = _; simp⟩
                · exact fun v w h => ⟨true, h, rfl⟩
                · intro ρ w' hc hB h154
                  refine chain_run rfl ?_
                  exact opk_load_slice rfl h154 ((hB.cell (p := ⟨wr2.heap.size, 3, none⟩) LB.out).trans Y3.out) ⟨Below.refl _ _, ⟨_, _, rfl, (SY.out).keep hB⟩⟩
                · exact fun v w h => ⟨true, h, rfl⟩
                · intro ρ w' hc hB h155
                  refine chain_run rfl ?_
                  obtain ⟨A_, c_, e_, s_⟩ := h155
                  exact opk_str rfl Try.underlying22 Try.underlying5 Try.underlying9 e_ s_ ⟨Below.refl _ _, rfl⟩
                · exact fun v w h => ⟨true, h, rfl⟩
                · intro ρ w' hc hB h153 h156
                  refine chain_run rfl ?_
                  exact opk_neq_string rfl h153 h156 ⟨Below.refl _ _, congrArg Value.bool (by simp)⟩
                · exact fun v w h => ⟨true, h, rfl⟩
                · intro ρ w' hc hB h147 h157
                  refine chain_run rfl ?_
                  exact opk_pick rfl h147 ⟨Below.refl _ _, h157⟩
                · exact fun v w h => ⟨false, h, rfl⟩
                · intro ρ w' hc hB h145 h158
                  refine chain_run rfl ?_
                  exact opk_pick rfl h145 ⟨Below.refl _ _, h158⟩
                · exact rfl
                · intro ρ w' hc hB h159
                  refine chain_run rfl ?_
                  exact opk_move rfl ⟨Below.refl _ _, h159⟩
                · exact rfl
                · intro ρ w' hc hB h11
                  refine chain_run rfl ?_
                  exact opk_put_0 rfl (show ρ (.tmp 11) = .pointer (some ⟨wr2.heap.size, 0, none⟩) from h11) ⟨Below.refl _ _, by show _ = _; simp⟩
                · exact fun v w h => ⟨false, h, rfl⟩
                · intro ρ w' hc hB h161
                  refine chain_run rfl ?_
                  exact opk_load_int rfl h161 ((hB.cell (p := ⟨wr2.heap.size, 0, none⟩) LB.out).trans Y0.out) ⟨Below.refl _ _, rfl⟩
                · exact fun v w h => ⟨false, h, rfl⟩
                · intro ρ w' hc hB h162
                  refine chain_run rfl ?_
                  exact opk_eql_int rfl h162 (hc.1 _) ⟨Below.refl _ _, congrArg Value.bool K0.out⟩
                · exact fun v w h => ⟨false, h, rfl⟩
                · intro ρ w' hc hB h163
                  refine chain_run rfl ?_
                  exact opk_move rfl ⟨Below.refl _ _, h163⟩
                · exact fun v w h => ⟨false, h, rfl⟩
                · intro ρ w' hc hB h8
                  exact chain_skip rfl trivial
                · exact fun v w h => ⟨false, h, rfl⟩
                · intro ρ w' hc hB h10
                  exact chain_skip rfl trivial
                · exact fun v w h => ⟨false, h, rfl⟩
                · intro ρ w' hc hB h165 h166
                  exact chain_skip rfl trivial
                · exact fun v w h => ⟨false, h, rfl⟩
                · intro ρ w' hc hB h167
                  exact chain_skip rfl trivial
                · exact fun v w h => ⟨false, h, rfl⟩
                · intro ρ w' hc hB h168
                  exact chain_skip rfl trivial
                · exact fun v w h => ⟨false, h, rfl⟩
                · intro ρ w' hc hB h11
                  exact chain_skip rfl trivial
                · exact fun v w h => ⟨false, h, rfl⟩
                · intro ρ w' hc hB h170
                  exact chain_skip rfl trivial
                · exact fun v w h => ⟨false, h, rfl⟩
                · intro ρ w' hc hB h169 h171
                  exact chain_skip rfl trivial
                · exact fun v w h => ⟨false, h, rfl⟩
                · intro ρ w' hc hB h164 h172
                  refine chain_run rfl ?_
                  exact opk_pick rfl h164 ⟨Below.refl _ _, hc.1 _⟩
                · exact fun v w h => ⟨false, h, rfl⟩
                · intro ρ w' hc hB h160 h173
                  refine chain_run rfl ?_
                  exact opk_pick rfl h160 ⟨Below.refl _ _, h173⟩
                · exact rfl
                intro a' w5 hbe hsz hd hF hU
                have e5 : a'.tmps.getD 174 undef = .bool false := hF 47 _ 174 rfl rfl
                obtain ⟨f, hf, hlit⟩ := act_mask a' _ _ [127, 128, 129, 130, 131, 132, 133, 134, 135, 136, 137, 138, 139, 140, 141, 142, 143, 144, 145, 146, 147, 148, 149, 150, 151, 152, 153, 154, 155, 156, 157, 158, 159, 160, 161, 162, 163, 164, 165, 166, 167, 168, 169, 170, 171, 172, 173, 174] [false, false, false, false, false, false, false, false, false, false, false, false, false, false, false, false, false, false, false, false, false, false, false, false, false, false, false, false, false, false, false, false, false, false, false, false, false, false, false, false, false, false, false, false, false, false, false, false, false, false, false, false, false, false, false, false, false, false, false, false, false, false, false, false, false, false, false, false, false, false, false, false, false, false, false, false, false, false, false, false, false, false, false, false, false, false, false, false, false, false, false, false, false, false, false, false, false, false, false, false, false, false, false, false, false, false, false, false, false, false, false, false, false, false, false, false, false, false, false, false, false, false, false, false, false, false, false, true, true, true, true, true, true, true, true, true, true, true, true, true, true, true, true, true, true, true, true, true, true, true, true, true, true, true, true, true, true, true, true, true, true, true, true, true, true, true, true, true, true, true, true, true, true, true, true] hsz hd rfl rfl (fun t ht => hU t (by
                  intro i o ho hod
                  have := List.mem_filterMap.2 ⟨o, List.mem_of_getElem? ho, hod⟩
                  revert this
                  exact fun h => ht (by simpa using h)))
                replace hlit : a' = ⟨#[_, _, _, _, _, _, _, _, _, _, _, _, _, _, _, _, _, _, _, _, _, _, _, _, _, _, _, _, _, _, _, _, _, _, _, _, _, _, _, _, _, _, _, _, _, _, _, _, _, _, _, _, _, _, _, _, _, _, _, _, _, _, _, _, _, _, _, _, _, _, _, _, _, _, _, _, _, _, _, _, _, _, _, _, _, _, _, _, _, _, _, _, _, _, _, _, _, _, _, _, _, _, _, _, _, _, _, _, _, _, _, _, _, _, _, _, _, _, _, _, _, _, _, _, _, _, _, f 127, f 128, f 129, f 130, f 131, f 132, f 133, f 134, f 135, f 136, f 137, f 138, f 139, f 140, f 141, f 142, f 143, f 144, f 145, f 146, f 147, f 148, f 149, f 150, f 151, f 152, f 153, f 154, f 155, f 156, f 157, f 158, f 159, f 160, f 161, f 162, f 163, f 164, f 165, f 166, f 167, f 168, f 169, f 170, f 171, f 172, f 173, f 174], _⟩ := hlit.trans (by rfl)
                rw [← hf] at e5
                rw [hlit, e5]
                clear hF hU hlit hf hsz hd
                have Hb5 := Lib.hid ((Hbw4.out.alloc Hbw4.out.size _).trans (hbe.mono (by simp; have := Hbw4.out.size; omega)))
                clear e5 hbe
                go_wp2_with fail
                exact ⟨⟨_, j + 1, rfl, by omega, by go_num, Hb5.out⟩, by simp only [intOf]; omega⟩
          · go_wp2_with fail
            go_ret
            exact ⟨rfl, Hbel2.out.trans (Hbw4.out.mono Hbel2.out.size)⟩
  · have hn2 : 40 < n := by omega
    clear hg
    go_enter Try.func4, Try.ntmps4
    go_wp2_with fail
    refine (known3 w).mono ?_
    rintro e w1 ⟨rfl, hb1⟩
    go_wp2_with fail
    go_ret
    exact ⟨rfl, hb1⟩
end Go.Proofs.Ytihclbiohljmlaa
