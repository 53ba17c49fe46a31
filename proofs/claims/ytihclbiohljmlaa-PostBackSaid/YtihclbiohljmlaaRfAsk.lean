/- The reference's Uint, Int, Text, All: what they answer. -/
import Derived.Test.YtihclbiohljmlaaRfParse
import Derived.Test.YtihclbiohljmlaaPbAsk3
namespace Go.Proofs.Ytihclbiohljmlaa
open Go.RowKit
set_option linter.unusedVariables false

theorem lastA_take (ps : List FA) (i : Nat) (hi : i < ps.length) (num : Int) (wire : Nat) : lastA (ps.take (i + 1)) num wire = if ((ps.getD i noFA).f.num : Int) = num ∧ (ps.getD i noFA).f.wire = wire then some (ps.getD i noFA) else lastA (ps.take i) num wire := by
  have e : ps.take (i + 1) = ps.take i ++ [ps.getD i noFA] := by
    rw [List.take_succ_eq_append_getElem hi]
    simp [hi]
  unfold lastA
  rw [e, List.reverse_append, List.reverse_singleton, List.singleton_append, List.find?_cons]
  by_cases h : ((ps.getD i noFA).f.num : Int) = num ∧ (ps.getD i noFA).f.wire = wire
  · rw [if_pos h]
    have : isF num wire (ps.getD i noFA) = true := decide_eq_true h
    rw [this]
  · rw [if_neg h]
    have : isF num wire (ps.getD i noFA) = false := decide_eq_false h
    rw [this]
def aU (r : Option FA) : Nat := (r.getD noFA).f.u
def aT (r : Option FA) : Value := .slice (r.getD noFA).A (r.getD noFA).f.b.length (r.getD noFA).c
theorem aU_f (ps : List FA) (num : Int) (wire : Nat) : aU (lastA ps num wire) = uOf (lastF (ps.map FA.f) num wire) := by
  unfold aU
  rw [uOf_getD, lastA_f]
theorem aS_f (ps : List FA) (num : Int) (wire : Nat) : (lastA ps num wire).isSome = (lastF (ps.map FA.f) num wire).isSome := by
  rw [← lastA_f, Option.isSome_map]

set_option maxHeartbeats 1600000 in
set_option maxRecDepth 4000 in
theorem ruint_p (A : Option Addr) (n c : Nat) (ps : List FA) (num : Int) (w : World) (hs : Flds w A n c ps) (hn : n ≤ 100000000) :
    Calls Try.prog 14 #[.slice A n c, .int .i64 num] w fun e W' => e = .returned (.tuple #[.int .u64 ((uOf (lastF (ps.map FA.f) num 0) : Nat) : Int), .bool (lastF (ps.map FA.f) num 0).isSome]) ∧ w = W' := by
  rw [← aU_f, ← aS_f]
  have hl := hs.hl
  have hend : lastA (ps.take n) num 0 = lastA ps num 0 := by rw [List.take_of_length_le (by omega)]
  have Hs := Lib.hid hs
  have Hl := Lib.hid hl
  have Hend := Lib.hid hend
  clear hs hl hend
  go_enter Try.func14, Try.ntmps14
  go_wp2_with fail
  go_loopw [6, 7, 8] (fun uv ov iv wr => ∃ (i U : Nat) (S : Bool), i ≤ n ∧ uv = .int .u64 (U : Int) ∧ ov = .bool S ∧ iv = .int .i64 (i : Int) ∧ Hid (aU (lastA (ps.take i) num 0) = U ∧ (lastA (ps.take i) num 0).isSome = S) ∧ w = wr) (fun _ _ iv _ => n - (intOf iv).toNat)
  case atStart => exact ⟨0, 0, false, by omega, rfl, rfl, rfl, ⟨rfl, rfl⟩, rfl⟩
  case round =>
    obtain ⟨i, U, S, hi, rfl, rfl, rfl, hr, rfl⟩ := hrel
    by_cases hlt : i < n
    · obtain ⟨b, off, rfl, hbw, hcell⟩ := Hs.out.sl.at5 Hl.out (by omega)
      obtain ⟨c0, c1, c2, c3, c4⟩ := hcell i hlt
      have htk := lastA_take ps i (by rw [Hl.out]; exact hlt) num 0
      clear hcell c3 c4
      generalize ps.getD i noFA = p at *
      obtain ⟨⟨fnum, fwire, u, bb, at_⟩, pA, pc⟩ := p
      dsimp only at *
      by_cases hm : (fnum : Int) = num ∧ fwire = 0
      · rw [if_pos hm] at htk
        obtain ⟨e1, e2⟩ := hm
        subst e1 e2
        have H2 : Hid (aU (lastA (ps.take (i + 1)) (fnum : Int) 0) = u ∧ (lastA (ps.take (i + 1)) (fnum : Int) 0).isSome = true) := by rw [htk]; exact ⟨rfl, rfl⟩
        clear htk hr
        go_wp2_with fail
        exact ⟨⟨i + 1, u, true, by omega, rfl, rfl, by go_num, H2, by first | rfl | trivial⟩, by simp only [intOf]; omega⟩
      · rw [if_neg hm] at htk
        have H2 : Hid (aU (lastA (ps.take (i + 1)) num 0) = U ∧ (lastA (ps.take (i + 1)) num 0).isSome = S) := by rw [htk]; exact hr
        clear htk hr
        by_cases hn1 : (fnum : Int) = num
        · have hw : ¬ fwire = 0 := fun h => hm ⟨hn1, h⟩
          subst hn1
          have e2 : ((fwire : Int) == 0) = false := beq_eq_false_iff_ne.2 (by omega)
          have e3 : (fwire == 0) = false := beq_eq_false_iff_ne.2 (by omega)
          clear hm hw
          go_wp2_with fail
          exact ⟨⟨i + 1, U, S, by omega, rfl, rfl, by go_num, H2, by first | rfl | trivial⟩, by simp only [intOf]; omega⟩
        · have e1 : ((fnum : Int) == num) = false := beq_eq_false_iff_ne.2 hn1
          clear hm
          go_wp2_with fail
          exact ⟨⟨i + 1, U, S, by omega, rfl, rfl, by go_num, H2, by first | rfl | trivial⟩, by simp only [intOf]; omega⟩
    · obtain rfl : i = n := by omega
      have h1 := hr.1
      have h2 := hr.2
      rw [Hend.out] at h1 h2
      have H1 := Lib.hid h1
      have H2 := Lib.hid h2
      clear hr h1 h2
      go_wp2_with fail
      go_ret2
      exact ⟨by rw [H1.out, H2.out] <;> rfl, rfl⟩

set_option maxHeartbeats 1600000 in
theorem rint_p (A : Option Addr) (n c : Nat) (ps : List FA) (num : Int) (w : World) (hs : Flds w A n c ps) (hn : n ≤ 100000000) (hu : ∀ p ∈ ps, p.f.u < 18446744073709551616) :
    Calls Try.prog 16 #[.slice A n c, .int .i64 num] w fun e W' => e = .returned (.tuple #[.int .i64 (zagS ((uOf (lastF (ps.map FA.f) num 0) : Nat) : Int)), .bool (lastF (ps.map FA.f) num 0).isSome]) ∧ w = W' := by
  have hl := ruint_p A n c ps num w hs hn
  have hub : uOf (lastF (ps.map FA.f) num 0) < 18446744073709551616 := by
    rw [← aU_f]
    unfold aU
    cases h : lastA ps num 0 with
    | none => decide
    | some p => exact hu p (lastA_mem h).1
  generalize uOf (lastF (ps.map FA.f) num 0) = u at *
  generalize (lastF (ps.map FA.f) num 0).isSome = bo at *
  have Hl := Lib.hid hl
  have Hub := Lib.hid hub
  clear hl hub
  go_enter Try.func16, Try.ntmps16
  go_wp2_with fail
  refine Hl.out.mono ?_
  rintro e w1 ⟨rfl, rfl⟩
  go_wp2_with fail
  refine (zag_r _ _ (by omega) (by have := Hub.out; omega)).mono ?_
  rintro e w2 ⟨rfl, rfl⟩
  go_wp2_with fail
  go_ret2
  exact ⟨rfl, rfl⟩

set_option maxHeartbeats 1600000 in
set_option maxRecDepth 4000 in
theorem rtext_p (A : Option Addr) (n c : Nat) (ps : List FA) (num : Int) (w : World) (hs : Flds w A n c ps) (hn : n ≤ 100000000) :
    Calls Try.prog 18 #[.slice A n c, .int .i64 num] w fun e W' => e = .returned (.tuple #[aT (lastA ps num 2), .bool (lastF (ps.map FA.f) num 2).isSome]) ∧ w = W' := by
  rw [← aS_f]
  have hl := hs.hl
  have hend : lastA (ps.take n) num 2 = lastA ps num 2 := by rw [List.take_of_length_le (by omega)]
  have Hs := Lib.hid hs
  have Hl := Lib.hid hl
  have Hend := Lib.hid hend
  clear hs hl hend
  go_enter Try.func18, Try.ntmps18
  go_wp2_with fail
  go_loopw [6, 7, 8] (fun uv ov iv wr => ∃ (i : Nat) (V : Value) (S : Bool), i ≤ n ∧ uv = V ∧ ov = .bool S ∧ iv = .int .i64 (i : Int) ∧ Hid (aT (lastA (ps.take i) num 2) = V ∧ (lastA (ps.take i) num 2).isSome = S) ∧ w = wr) (fun _ _ iv _ => n - (intOf iv).toNat)
  case atStart => exact ⟨0, _, false, by omega, rfl, rfl, rfl, ⟨rfl, rfl⟩, rfl⟩
  case round =>
    obtain ⟨i, V, S, hi, hV, rfl, rfl, hr, rfl⟩ := hrel
    have hV := hV.symm
    subst hV
    by_cases hlt : i < n
    · obtain ⟨b, off, rfl, hbw, hcell⟩ := Hs.out.sl.at5 Hl.out (by omega)
      obtain ⟨c0, c1, c2, c3, c4⟩ := hcell i hlt
      have htk := lastA_take ps i (by rw [Hl.out]; exact hlt) num 2
      clear hcell c2 c4
      generalize ps.getD i noFA = p at *
      obtain ⟨⟨fnum, fwire, u, bb, at_⟩, pA, pc⟩ := p
      dsimp only at *
      by_cases hm : (fnum : Int) = num ∧ fwire = 2
      · rw [if_pos hm] at htk
        obtain ⟨e1, e2⟩ := hm
        subst e1 e2
        have H2 : Hid (aT (lastA (ps.take (i + 1)) (fnum : Int) 2) = .slice pA bb.length pc ∧ (lastA (ps.take (i + 1)) (fnum : Int) 2).isSome = true) := by rw [htk]; exact ⟨rfl, rfl⟩
        clear htk hr
        go_wp2_with fail
        exact ⟨⟨i + 1, _, true, by omega, rfl, rfl, by go_num, H2, by first | rfl | trivial⟩, by simp only [intOf]; omega⟩
      · rw [if_neg hm] at htk
        have H2 : Hid (aT (lastA (ps.take (i + 1)) num 2) = V ∧ (lastA (ps.take (i + 1)) num 2).isSome = S) := by rw [htk]; exact hr
        clear htk hr
        by_cases hn1 : (fnum : Int) = num
        · have hw : ¬ fwire = 2 := fun h => hm ⟨hn1, h⟩
          subst hn1
          have e2 : ((fwire : Int) == 2) = false := beq_eq_false_iff_ne.2 (by omega)
          clear hm hw
          go_wp2_with fail
          exact ⟨⟨i + 1, V, S, by omega, rfl, rfl, by go_num, H2, by first | rfl | trivial⟩, by simp only [intOf]; omega⟩
        · have e1 : ((fnum : Int) == num) = false := beq_eq_false_iff_ne.2 hn1
          clear hm
          go_wp2_with fail
          exact ⟨⟨i + 1, V, S, by omega, rfl, rfl, by go_num, H2, by first | rfl | trivial⟩, by simp only [intOf]; omega⟩
    · obtain rfl : i = n := by omega
      have h1 := hr.1
      have h2 := hr.2
      rw [Hend.out] at h1 h2
      have H1 := Lib.hid h1
      have H2 := Lib.hid h2
      clear hr h1 h2
      go_wp2_with fail
      go_ret2
      exact ⟨by rw [H1.out, H2.out] <;> rfl, rfl⟩

theorem AllSt.skip0 {w wr : World} {fs : List FieldV} {num : Int} {i m : Nat} {ov : Value} {ts : List TA} {f : FieldV} (h : AllSt w fs num i ov m ts wr) (hf : fs.take (i + 1) = fs.take i ++ [f]) (hno : ¬ ((f.num : Int) = num ∧ f.wire = 2)) : AllSt w fs num (i + 1) ov m ts wr :=
  ⟨h.own, h.hl, by rw [hf, allF_snoc, if_neg hno, List.append_nil]; exact h.eqv, h.txt, by have := h.few; omega, h.bel⟩

set_option maxHeartbeats 1600000 in
set_option maxRecDepth 100000 in
theorem rall_f (A : Option Addr) (n c : Nat) (ps : List FA) (num : Int) (w : World) (hs : Flds w A n c ps) (hn : n ≤ 100000000) (hu : ∀ p ∈ ps, p.f.b.length ≤ 1000000000000) :
    Calls Try.prog 20 #[.slice A n c, .int .i64 num] w fun e w' => AllOut w (allF (ps.map FA.f) num) e w' := by
  obtain ⟨i0, hi, hz0, hz1, hz2⟩ := info_parts Try.info22
  have H0 : AllSt w (ps.map FA.f) num 0 (.slice none 0 0) 0 [] w := ⟨World.ownsRow_nil _ _ _ _, rfl, rfl, (fun _ h => by cases h), by omega, Below.refl _ _⟩
  have Hs := Lib.hid hs
  have Hu := Lib.hid hu
  clear hs hu
  go_enter Try.func20, Try.ntmps20
  go_wp2_with fail
  go_loopw [5, 6] (fun ov iv wr => ∃ (i m co : Nat) (Ao : Option Addr) (ts : List TA), i ≤ n ∧ iv = .int .i64 (i : Int) ∧ ov = .slice Ao m co ∧ AllSt w (ps.map FA.f) num i (.slice Ao m co) m ts wr) (fun _ iv _ => n - (intOf iv).toNat)
  case atStart => exact ⟨0, 0, 0, none, [], by omega, rfl, rfl, H0⟩
  case round =>
    obtain ⟨i, m, co, Ao, ts, hi', rfl, rfl, hst⟩ := hrel
    have hfew := hst.few
    have hbel := hst.bel
    have Hst := Lib.hid hst
    clear H0
    by_cases hlt : i < n
    · clear hst
      have hl := Hs.out.hl
      obtain ⟨b, off, rfl, hbw, hcell⟩ := Hs.out.sl.at5 hl (by omega)
      obtain ⟨c0, c1, c2, c3, c4⟩ := hcell i hlt
      have hmem := getD_mem ps i (by omega)
      have htk := take_getD ps i (by omega)
      have htx := (Hs.out.txt _ hmem).keep hbel
      have hbl := Hu.out _ hmem
      clear hcell
      generalize ps.getD i noFA = p at *
      obtain ⟨⟨fnum, fwire, u, bb, at_⟩, pA, pc⟩ := p
      dsimp only at *
      have d0 := (hbel.cell (p := ⟨b, off + i * 5, none⟩) hbw).trans c0
      have d1 := (hbel.cell (p := ⟨b, off + i * 5 + 1, none⟩) hbw).trans c1
      have d3 := (hbel.cell (p := ⟨b, off + i * 5 + 3, none⟩) hbw).trans c3
      have Htk := Lib.hid htk
      have Htx := Lib.hid htx
      clear htk htx c0 c1 c2 c3 c4 hmem hl
      by_cases hm : (fnum : Int) = num ∧ fwire = 2
      · obtain ⟨e1, e2⟩ := hm
        subst e1 e2
        generalize hbbl : bb.length = bl at *
        have Hbbl := Lib.hid hbbl
        clear hbbl
        have hszr := hbel.size
        go_wp2_with (at_builtin; refine wpList_append_sl rfl (.tmp 28) (.tmp 34) 41 rfl w.heap.size 22 i0 (.slice none 0 0) 24 Try.underlying41 hi hz0 hz1 hz2 rfl (.slice Ao m co) m _ rfl (Hst.out.own.alloc _) (some ⟨wr.heap.size, 0, none⟩) 1 1 [.slice pA bl pc] rfl (Sl.one_new wr _ 22 rfl) ?c1 ?c2 ?c3 ?_)
        case c1 => unfold maxLen; omega
        case c2 => omega
        case c3 => simp; omega
        intro v' w4 ho4 hb4 hg4 _
        have hb : bb.length = bl := Hbbl.out
        have hst2 := Hst.out.step Htk.out ⟨rfl, rfl⟩ (below_new wr (.cells #[.slice pA bl pc] 22)) (B := pA) (cB := pc) (Htx.out.keep (below_new _ _)) (Hst.out.own.alloc _) (by simp only [hb]; exact ho4) hg4
        obtain ⟨A2, c2, rfl, _⟩ := Sl.of_own ho4 (fun u hu => by rcases List.mem_append.1 hu with h | h; exact ta_one ts u h; rw [List.mem_singleton] at h; subst h; rfl)
        have Hst2 := Lib.hid hst2
        clear hst2 ho4 hg4 hb4 hbel hb
        go_wp2_with fail
        exact ⟨⟨i + 1, m + 1, c2, A2, _, by omega, by go_num, rfl, Hst2.out⟩, by simp only [intOf]; omega⟩
      · have hst2 := Hst.out.skip0 Htk.out hm
        have Hst2 := Lib.hid hst2
        clear hst2
        by_cases hn1 : (fnum : Int) = num
        · have hw : ¬ fwire = 2 := fun h => hm ⟨hn1, h⟩
          subst hn1
          have e2 : ((fwire : Int) == 2) = false := beq_eq_false_iff_ne.2 (by omega)
          clear hm hw
          go_wp2_with fail
          exact ⟨⟨i + 1, m, co, Ao, ts, by omega, by go_num, rfl, Hst2.out⟩, by simp only [intOf]; omega⟩
        · have e1 : ((fnum : Int) == num) = false := beq_eq_false_iff_ne.2 hn1
          clear hm
          go_wp2_with fail
          exact ⟨⟨i + 1, m, co, Ao, ts, by omega, by go_num, rfl, Hst2.out⟩, by simp only [intOf]; omega⟩
    · have ho := hst.out (by rw [List.length_map, Hs.out.hl]; omega)
      have Ho := Lib.hid ho.1
      clear hst ho
      go_wp2_with fail
      go_ret
      exact Ho.out
end Go.Proofs.Ytihclbiohljmlaa
