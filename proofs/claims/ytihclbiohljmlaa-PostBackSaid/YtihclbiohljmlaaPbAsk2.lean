/- pb.All: what it answers. -/
import Derived.Test.YtihclbiohljmlaaPbAsk1
namespace Go.Proofs.Ytihclbiohljmlaa
open Go.RowKit
set_option linter.unusedVariables false

/-- Bytes, and where they lie. -/
structure TA where
  A : Option Addr
  c : Nat
  b : List Nat
def TA.v (t : TA) : Value := .slice t.A t.b.length t.c
theorem ta_one (ts : List TA) : ∀ u ∈ ts.map TA.v, u.oneCell' = true := by
  intro u hu
  obtain ⟨t, _, rfl⟩ := List.mem_map.1 hu
  rfl
/-- A slice of byte slices. -/
structure Rows8 (w : World) (A : Option Addr) (n c : Nat) (ts : List TA) : Prop where
  sl : Sl w A n c (ts.map TA.v)
  txt : ∀ t ∈ ts, Txt w t.A t.c t.b
theorem Rows8.nil (w : World) : Rows8 w none 0 0 [] := ⟨Sl.none_ w, (fun _ h => by cases h)⟩

structure AllSt (w : World) (fs : List FieldV) (num : Int) (i : Nat) (ov : Value) (m : Nat) (ts : List TA) (wr : World) : Prop where
  own : wr.ownsRow w.heap.size 22 1 ov m (ts.map TA.v)
  hl : ts.length = m
  eqv : ts.map TA.b = allF (fs.take i) num
  txt : ∀ t ∈ ts, Txt wr t.A t.c t.b
  few : m ≤ i
  bel : Below w.heap.size w wr
theorem allF_snoc (l : List FieldV) (f : FieldV) (num : Int) : allF (l ++ [f]) num = allF l num ++ (if (f.num : Int) = num ∧ f.wire = 2 then [f.b] else []) := by
  unfold allF
  rw [List.filter_append, List.map_append]
  congr 1
  by_cases h : (f.num : Int) = num ∧ f.wire = 2
  · rw [if_pos h, List.filter_cons_of_pos (by simpa using h)]; rfl
  · rw [if_neg h, List.filter_cons_of_neg (by simpa using h)]; rfl
theorem take_getD (ps : List FA) (i : Nat) (hi : i < ps.length) : (ps.map FA.f).take (i + 1) = (ps.map FA.f).take i ++ [(ps.getD i noFA).f] := by
  rw [List.take_succ_eq_append_getElem (by simpa using hi)]
  simp [hi]
theorem getD_mem (ps : List FA) (i : Nat) (hi : i < ps.length) : ps.getD i noFA ∈ ps := by
  simp [hi]
theorem AllSt.skip {w wr : World} {fs : List FieldV} {num : Int} {i m : Nat} {ov : Value} {ts : List TA} {f : FieldV} {o : Obj} (h : AllSt w fs num i ov m ts wr) (hf : fs.take (i + 1) = fs.take i ++ [f]) (hno : ¬ ((f.num : Int) = num ∧ f.wire = 2)) : AllSt w fs num (i + 1) ov m ts (wr.alloc o) :=
  ⟨h.own.alloc _, h.hl, by rw [hf, allF_snoc, if_neg hno, List.append_nil]; exact h.eqv, fun t ht => (h.txt t ht).keep (below_new _ _), by have := h.few; omega, h.bel.alloc h.bel.size _⟩
theorem AllSt.step {w wr w2 w' : World} {fs : List FieldV} {num : Int} {i m cB : Nat} {ov v' : Value} {ts : List TA} {f : FieldV} {B : Option Addr} (h : AllSt w fs num i ov m ts wr) (hf : fs.take (i + 1) = fs.take i ++ [f]) (hyes : (f.num : Int) = num ∧ f.wire = 2)
    (hb2 : Below wr.heap.size wr w2) (ht : Txt w2 B cB f.b) (ho2 : w2.ownsRow w.heap.size 22 1 ov m (ts.map TA.v)) (ho : w'.ownsRow w.heap.size 22 1 v' (m + 1) (ts.map TA.v ++ [.slice B f.b.length cB])) (hg : w2.grownBy w' ov.ownBlock) :
    AllSt w fs num (i + 1) v' (m + 1) (ts ++ [⟨B, cB, f.b⟩]) w' := by
  have hne : (22 : TypeId) ≠ 5 := by decide
  refine ⟨by simpa [TA.v] using ho, by simp [h.hl], by rw [hf, allF_snoc, if_pos hyes, List.map_append, h.eqv]; rfl, ?_, by have := h.few; omega, ?_⟩
  · intro t htm
    rcases List.mem_append.1 htm with htm | htm
    · exact ((h.txt t htm).keep hb2).grown ho2 hne hg
    · rw [List.mem_singleton] at htm
      subst htm
      exact ht.grown ho2 hne hg
  · exact (h.bel.trans (hb2.mono h.bel.size)).trans (below_of_grown ho2 hg (Nat.le_trans h.bel.size hb2.size))

/-- What All answers. -/
def AllOut (w : World) (R : List (List Nat)) (e : Ending) (w' : World) : Prop :=
  ∃ F m cF ts, e = .returned (.slice F m cF) ∧ Rows8 w' F m cF ts ∧ ts.map TA.b = R ∧ Below w.heap.size w w'
theorem AllSt.out {w wr : World} {fs : List FieldV} {num : Int} {i m co : Nat} {Ao : Option Addr} {ts : List TA} (h : AllSt w fs num i (.slice Ao m co) m ts wr) (hi : fs.length ≤ i) :
    AllOut w (allF fs num) (.returned (.slice Ao m co)) wr ∧ AllOut w (allF fs num) (.returned (.slice Ao m m)) wr := by
  obtain ⟨A, c, hv, hs⟩ := Sl.of_own h.own (ta_one ts)
  injection hv with h1 h2 h3
  subst h1 h3
  have he := h.eqv
  rw [List.take_of_length_le hi] at he
  exact ⟨⟨_, _, _, ts, rfl, ⟨hs, h.txt⟩, he, h.bel⟩, ⟨_, _, _, ts, rfl, ⟨⟨hs.len, Nat.le_refl _, Nat.le_trans hs.le hs.max, fun hA => by have := hs.nil hA; have := hs.le; omega, hs.cells, hs.one⟩, h.txt⟩, he, h.bel⟩⟩

theorem Try.info22 : (Try.prog.info? 22).map (fun i => (i.zero, i.size, i.bytes)) = some (some (.slice none 0 0), 1, 24) := by kernel_rfl

set_option maxHeartbeats 400000 in
theorem clip_rows (A : Option Addr) (n c : Nat) (w : World) (hle : n ≤ c) (hmax : c ≤ maxLen) :
    Calls Try.prog 45 #[.slice A n c] w fun e w' => e = .returned (.slice A n n) ∧ w = w' := by
  unfold maxLen at hmax
  go_enter Try.func45, Try.ntmps45
  go_wp2
  go_ret
  exact ⟨rfl, rfl⟩

set_option maxHeartbeats 1600000 in
set_option maxRecDepth 100000 in
theorem all_f (A : Option Addr) (n c : Nat) (ps : List FA) (num : Int) (w : World) (hs : Flds w A n c ps) (hn : n ≤ 100000000) (hu : ∀ p ∈ ps, p.f.b.length ≤ 1000000000000) :
    Calls Try.prog 19 #[.slice A n c, .int .i64 num] w fun e w' => AllOut w (allF (ps.map FA.f) num) e w' := by
  obtain ⟨i0, hi, hz0, hz1, hz2⟩ := info_parts Try.info22
  have H0 : AllSt w (ps.map FA.f) num 0 (.slice none 0 0) 0 [] w := ⟨World.ownsRow_nil _ _ _ _, rfl, rfl, (fun _ h => by cases h), by omega, Below.refl _ _⟩
  have Hs := Lib.hid hs
  have Hu := Lib.hid hu
  clear hs hu
  go_enter Try.func19, Try.ntmps19
  go_wp2_with fail
  go_loopw [5, 10] (fun ov iv wr => ∃ (i m co : Nat) (Ao : Option Addr) (ts : List TA), i ≤ n ∧ iv = .int .i64 (i : Int) ∧ ov = .slice Ao m co ∧ AllSt w (ps.map FA.f) num i (.slice Ao m co) m ts wr) (fun _ iv _ => n - (intOf iv).toNat)
  case atStart => exact ⟨0, 0, 0, none, [], by omega, rfl, rfl, H0⟩
  case round =>
    obtain ⟨i, m, co, Ao, ts, hi', rfl, rfl, hst⟩ := hrel
    have hfew := hst.few
    have hbel := hst.bel
    have Hst := Lib.hid hst
    clear H0
    by_cases hlt : i < n
    · clear hst
      have hl := Hs.out.hl
      obtain ⟨b, off, rfl, hbw, hcell⟩ := Hs.out.sl.at5 hl (by omega)
      obtain ⟨c0, c1, c2, c3, c4⟩ := hcell i hlt
      have hmem := getD_mem ps i (by omega)
      have htk := take_getD ps i (by omega)
      have htx := (Hs.out.txt _ hmem).keep hbel
      have hbl := Hu.out _ hmem
      clear hcell
      generalize ps.getD i noFA = p at *
      obtain ⟨⟨fnum, fwire, u, bb, at_⟩, pA, pc⟩ := p
      dsimp only at *
      have d0 := (hbel.cell (p := ⟨b, off + i * 5, none⟩) hbw).trans c0
      have d1 := (hbel.cell (p := ⟨b, off + i * 5 + 1, none⟩) hbw).trans c1
      have d2 := (hbel.cell (p := ⟨b, off + i * 5 + 2, none⟩) hbw).trans c2
      have d3 := (hbel.cell (p := ⟨b, off + i * 5 + 3, none⟩) hbw).trans c3
      have d4 := (hbel.cell (p := ⟨b, off + i * 5 + 4, none⟩) hbw).trans c4
      have Htk := Lib.hid htk
      have Htx := Lib.hid htx
      clear htk htx c0 c1 c2 c3 c4 hmem hl
      by_cases hm : (fnum : Int) = num ∧ fwire = 2
      · obtain ⟨e1, e2⟩ := hm
        subst e1 e2
        generalize hbbl : bb.length = bl at *
        have Hbbl := Lib.hid hbbl
        clear hbbl
        have hszr := hbel.size
        go_wp2_with fail
        have hs1 : Sl wr pA bl pc (nats .u8 bb) := by have := Htx.out.sl; rw [Hbbl.out] at this; exact this
        refine (clone_u8 pA bl pc (nats .u8 bb) _ (hs1.keep (below_new _ _)) (by omega)).mono ?_
        rintro e w2 ⟨ov, rfl, hown, hb2⟩
        obtain ⟨B, cB, rfl, sB⟩ := Sl.of_own hown (nats_one _ _)
        have tB := Typ.of_own hown
        have ho2 := own_below (Hst.out.own.alloc _) hb2
        have hbw2 : Below wr.heap.size wr w2 := below_trans' (below_new _ _) hb2
        have hsz2 := hbw2.size
        have Hbw2 := Lib.hid hbw2
        have Hb2 := Lib.hid hb2
        have Ho2 := Lib.hid ho2
        have HtB := Lib.hid tB
        clear hown tB ho2 hbw2 hb2
        go_wp2_with fail
        refine (clip_u8 B bl cB _ _ sB).mono ?_
        rintro e w3 ⟨rfl, sB3, rfl⟩
        have HsB3 := Lib.hid sB3
        clear sB sB3
        go_wp2_with (at_builtin; refine wpList_append_sl rfl (.tmp 23) (.tmp 28) 41 rfl w.heap.size 22 i0 (.slice none 0 0) 24 Try.underlying41 hi hz0 hz1 hz2 rfl (.slice Ao m co) m _ rfl (Ho2.out.alloc _) (some ⟨w3.heap.size, 0, none⟩) 1 1 [.slice B bl bl] rfl (Sl.one_new w3 _ 22 rfl) ?c1 ?c2 ?c3 ?_)
        case c1 => unfold maxLen; omega
        case c2 => omega
        case c3 => simp; omega
        intro v' w4 ho4 hb4 hg4 _
        have hb : bb.length = bl := Hbbl.out
        have hst2 := Hst.out.step Htk.out ⟨rfl, rfl⟩ (Hbw2.out.alloc hsz2 (.cells #[.slice B bl bl] 22)) (B := B) (cB := bl) ((Txt.mk (by simp only [hb]; exact HsB3.out) HtB.out).keep (below_new _ _)) (Ho2.out.alloc _) (by simp only [hb]; exact ho4) hg4
        obtain ⟨A2, c2, rfl, _⟩ := Sl.of_own ho4 (fun u hu => by rcases List.mem_append.1 hu with h | h; exact ta_one ts u h; rw [List.mem_singleton] at h; subst h; rfl)
        have Hst2 := Lib.hid hst2
        clear hst2 ho4 hg4 hb4 hbel hb
        go_wp2_with fail
        exact ⟨⟨i + 1, m + 1, c2, A2, _, by omega, by go_num, rfl, Hst2.out⟩, by simp only [intOf]; omega⟩
      · have hst2 := fun o => Hst.out.skip (o := o) Htk.out hm
        have Hst2 := Lib.hid hst2
        clear hst2
        by_cases hn1 : (fnum : Int) = num
        · have hw : ¬ fwire = 2 := fun h => hm ⟨hn1, h⟩
          subst hn1
          have e2 : ((fwire : Int) == 2) = false := beq_eq_false_iff_ne.2 (by omega)
          clear hm hw
          go_wp2_with fail
          exact ⟨⟨i + 1, m, co, Ao, ts, by omega, by go_num, rfl, Hst2.out _⟩, by simp only [intOf]; omega⟩
        · have e1 : ((fnum : Int) == num) = false := beq_eq_false_iff_ne.2 hn1
          clear hm
          go_wp2_with fail
          exact ⟨⟨i + 1, m, co, Ao, ts, by omega, by go_num, rfl, Hst2.out _⟩, by simp only [intOf]; omega⟩
    · have ho := hst.out (by rw [List.length_map, Hs.out.hl]; omega)
      obtain ⟨_, c3, hv, hs3⟩ := Sl.of_own hst.own (ta_one ts)
      injection hv with h1 h2 h3
      subst h1 h3
      have hle := hs3.le
      have hmax := hs3.max
      have Ho := Lib.hid ho.2
      clear hst ho hs3
      go_wp2_with fail
      refine (clip_rows Ao m co wr hle hmax).mono ?_
      rintro e w1 ⟨rfl, rfl⟩
      go_wp2_with fail
      go_ret
      exact Ho.out
end Go.Proofs.Ytihclbiohljmlaa
