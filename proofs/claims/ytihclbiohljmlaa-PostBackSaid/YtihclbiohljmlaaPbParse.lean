/- pb.Parse: what it answers, for any bytes. -/
import Derived.Test.YtihclbiohljmlaaPbField6
namespace Go.Proofs.Ytihclbiohljmlaa
open Go.RowKit
set_option linter.unusedVariables false

/-- A field, and where its bytes lie. -/
structure FA where
  f : FieldV
  A : Option Addr
  c : Nat
def FA.cells (p : FA) : List Value := [.int .i64 (p.f.num : Int), .int .i64 (p.f.wire : Int), .int .u64 (p.f.u : Int), .slice p.A p.f.b.length p.c, .int .i64 (p.f.at_ : Int)]

/-- The slice value '.slice A n c' of structs of 'size' cells reads as the cells xs. -/
structure SlS (w : World) (A : Option Addr) (n c size : Nat) (xs : List Value) : Prop where
  len : xs.length = n * size
  le : n ≤ c
  max : c ≤ maxLen
  nil : A = none → c = 0
  cells : ∀ ad, A = some ad → ∀ j u, xs[j]? = some u → w.cell? (ad.add j) = some u
  one : ∀ u ∈ xs, u.oneCell' = true
  blk : ∀ ad, A = some ad → ad.spot = none ∧ ad.block < w.heap.size
/-- A slice of fields. -/
structure Flds (w : World) (A : Option Addr) (n c : Nat) (ps : List FA) : Prop where
  sl : SlS w A n c 5 (ps.flatMap FA.cells)
  hl : ps.length = n
  txt : ∀ p ∈ ps, Txt w p.A p.c p.f.b

theorem FA.one (p : FA) : ∀ u ∈ p.cells, u.oneCell' = true := by
  intro u hu
  simp only [FA.cells, List.mem_cons, List.not_mem_nil, or_false] at hu
  rcases hu with rfl | rfl | rfl | rfl | rfl <;> rfl
theorem flat_one (ps : List FA) : ∀ u ∈ ps.flatMap FA.cells, u.oneCell' = true := by
  intro u hu
  obtain ⟨p, _, hp⟩ := List.mem_flatMap.1 hu
  exact p.one u hp
theorem SlS.of_own {w : World} {base n size : Nat} {e : TypeId} {v : Value} {xs : List Value} (h : w.ownsRow base e size v n xs) (h1 : ∀ u ∈ xs, u.oneCell' = true) : ∃ A c, v = .slice A n c ∧ SlS w A n c size xs := by
  rcases h.2 with ⟨rfl, rfl⟩ | ⟨g, cap, cur, rfl, hb, hg, hle, hm, hs, ht⟩
  · have : xs = [] := List.eq_nil_of_length_eq_zero (by simpa using h.1)
    subst this
    exact ⟨none, 0, rfl, ⟨by simp, Nat.le_refl _, Nat.zero_le _, fun _ => rfl, (fun _ h => by cases h), (fun _ h => by cases h), (fun _ h => by cases h)⟩⟩
  · refine ⟨some ⟨g, 0, none⟩, cap, rfl, ⟨h.1, hle, hm, (fun h => by cases h), fun ad had j u hu => ?_, h1, fun ad had => ?_⟩⟩
    · injection had with had
      subst had
      exact h.cells (g := g) rfl j u hu
    · injection had with had
      subst had
      exact ⟨rfl, (Array.getElem?_eq_some_iff.1 hg).1⟩
theorem SlS.clip {w : World} {A : Option Addr} {n c size : Nat} {xs : List Value} (h : SlS w A n c size xs) : SlS w A n n size xs :=
  ⟨h.len, Nat.le_refl _, Nat.le_trans h.le h.max, fun hA => by have := h.nil hA; have := h.le; omega, h.cells, h.one, h.blk⟩
theorem SlS.keep {w w' : World} {A : Option Addr} {n c size : Nat} {xs : List Value} (h : SlS w A n c size xs) (hb : Below w.heap.size w w') : SlS w' A n c size xs :=
  ⟨h.len, h.le, h.max, h.nil, fun ad hA j u hu => by
    have := h.cells ad hA j u hu
    exact (hb.cell (World.block_lt_of_cell? w _ this)).trans this, h.one, fun ad hA => ⟨(h.blk ad hA).1, Nat.lt_of_lt_of_le (h.blk ad hA).2 hb.size⟩⟩

theorem Typ.lt {w : World} {A : Option Addr} {e : TypeId} (h : Typ w A e) : ∀ ad, A = some ad → ad.block < w.heap.size := fun ad hA => by
  obtain ⟨cs, fr, hh⟩ := h ad hA
  exact (Array.getElem?_eq_some_iff.1 hh).1
theorem Txt.of_heap {w w' : World} {B : Option Addr} {cB : Nat} {b : List Nat} (h : Txt w B cB b) (hk : ∀ ad, B = some ad → w'.heap[ad.block]? = w.heap[ad.block]?) : Txt w' B cB b :=
  ⟨h.sl.of_heap hk, fun ad hA => by obtain ⟨cs, fr, hh⟩ := h.typ ad hA; exact ⟨cs, fr, (hk ad hA).trans hh⟩⟩
theorem Txt.keep {w w' : World} {B : Option Addr} {cB : Nat} {b : List Nat} (h : Txt w B cB b) (hb : Below w.heap.size w w') : Txt w' B cB b :=
  h.of_heap fun ad hA => hb.block _ (h.typ.lt ad hA)
/-- Bytes do not lie in an own row of another type. -/
theorem Txt.apart {w : World} {B : Option Addr} {cB : Nat} {b : List Nat} (h : Txt w B cB b) {base n size : Nat} {e : TypeId} {v : Value} {xs : List Value} (ho : w.ownsRow base e size v n xs) (he : e ≠ 5) : ∀ ad, B = some ad → some ad.block ≠ v.ownBlock := by
  intro ad hA hv
  obtain ⟨cs, fr, hh⟩ := h.typ ad hA
  rcases ho.2 with ⟨rfl, _⟩ | ⟨g, cap, cur, rfl, _, hg, _⟩
  · cases hv
  · simp only [Value.ownBlock, Option.some.injEq] at hv
    rw [hv, hg] at hh
    injection hh with hh
    injection hh with _ h2
    exact he h2
theorem Txt.grown {w w' : World} {B : Option Addr} {cB : Nat} {b : List Nat} (h : Txt w B cB b) {base n size : Nat} {e : TypeId} {v : Value} {xs : List Value} (ho : w.ownsRow base e size v n xs) (he : e ≠ 5) (hg : w.grownBy w' v.ownBlock) : Txt w' B cB b :=
  h.of_heap fun ad hA => hg.block _ (h.typ.lt ad hA) (h.apart ho he ad hA)

theorem own_below {w w' : World} {base size n : Nat} {e : TypeId} {v : Value} {xs : List Value} (h : w.ownsRow base e size v n xs) (hb : Below w.heap.size w w') : w'.ownsRow base e size v n xs := by
  refine ⟨h.1, ?_⟩
  rcases h.2 with h1 | ⟨g, cap, cur, hv, hbs, hg, hr⟩
  · exact .inl h1
  · exact .inr ⟨g, cap, cur, hv, hbs, (hb.block g (Array.getElem?_eq_some_iff.1 hg).1).trans hg, hr⟩

structure ParSt (w : World) (bs : List Nat) (R : List FieldV × Nat) (T : TypeId) (k : Nat) (ov : Value) (m : Nat) (ps : List FA) (wr : World) : Prop where
  par : parR (bs.length - k) (bs.drop k) k (ps.map FA.f) = R
  own : wr.ownsRow w.heap.size T 5 ov m (ps.flatMap FA.cells)
  hl : ps.length = m
  txt : ∀ p ∈ ps, Txt wr p.A p.c p.f.b
  few : m ≤ 4096
  bel : Below w.heap.size w wr

theorem ParSt.par1 {w wr : World} {bs : List Nat} {R : List FieldV × Nat} {T : TypeId} {k m : Nat} {ov : Value} {ps : List FA} (h : ParSt w bs R T k ov m ps wr) (hk : k < bs.length) :
    (if 4096 ≤ m then ([], 4) else if (fldR (bs.drop k) k).2.2 ≠ 0 then ([], (fldR (bs.drop k) k).2.2) else parR (bs.length - k - 1) ((bs.drop k).drop (fldR (bs.drop k) k).2.1) (k + (fldR (bs.drop k) k).2.1) (ps.map FA.f ++ [(fldR (bs.drop k) k).1])) = R := by
  have h1 := h.par
  rw [show bs.length - k = (bs.length - k - 1) + 1 from by omega] at h1
  unfold parR at h1
  rw [if_neg (by intro e; have := congrArg List.length e; rw [List.length_drop, List.length_nil] at this; omega), List.length_map, h.hl] at h1
  exact h1
theorem ParSt.done {w wr : World} {bs : List Nat} {R : List FieldV × Nat} {T : TypeId} {k m : Nat} {ov : Value} {ps : List FA} (h : ParSt w bs R T k ov m ps wr) (hk : bs.length ≤ k) : R = (ps.map FA.f, 0) := by
  have h1 := h.par
  rw [show bs.length - k = 0 from by omega] at h1
  exact h1.symm
theorem ParSt.step {w wr w2 w' : World} {bs : List Nat} {R : List FieldV × Nat} {T : TypeId} {k m s cB : Nat} {ov v' : Value} {ps : List FA} {f : FieldV} {B : Option Addr} (h : ParSt w bs R T k ov m ps wr) (hk : k < bs.length) (hm : ¬ 4096 ≤ m)
    (he : fldR (bs.drop k) k = (f, s, 0)) (hb2 : Below wr.heap.size wr w2) (ht : Txt w2 B cB f.b) (hT : T ≠ 5) (ho2 : w2.ownsRow w.heap.size T 5 ov m (ps.flatMap FA.cells))
    (ho : w'.ownsRow w.heap.size T 5 v' (m + 1) (ps.flatMap FA.cells ++ FA.cells ⟨f, B, cB⟩)) (hg : w2.grownBy w' ov.ownBlock) : ParSt w bs R T (k + s) v' (m + 1) (ps ++ [⟨f, B, cB⟩]) w' := by
  have h1 := h.par1 hk
  have hs := fldR_size (bs.drop k) k (by rw [he])
  rw [he] at hs
  rw [if_neg hm, he, if_neg (by simp)] at h1
  simp only [List.length_drop] at hs h1
  refine ⟨?_, by simpa using ho, by simp [h.hl], ?_, by omega, ?_⟩
  · rw [← h1, List.drop_drop, List.map_append]
    exact parR_fuel _ _ _ _ _ (by rw [List.length_drop]; omega) (by rw [List.length_drop]; omega)
  · intro p hp
    rcases List.mem_append.1 hp with hp | hp
    · exact ((h.txt p hp).keep hb2).grown ho2 hT hg
    · rw [List.mem_singleton] at hp
      subst hp
      exact ht.grown ho2 hT hg
  · exact (h.bel.trans (hb2.mono h.bel.size)).trans (below_of_grown ho2 hg (Nat.le_trans h.bel.size hb2.size))

theorem Try.info57 : (Try.prog.info? 57).map (fun i => (i.zero, i.size, i.bytes)) = some (some fz, 5, 56) := by kernel_rfl

set_option maxHeartbeats 400000 in
theorem clip_fld (A : Option Addr) (n c : Nat) (w : World) (hle : n ≤ c) (hmax : c ≤ maxLen) :
    Calls Try.prog 38 #[.slice A n c] w fun e w' => e = .returned (.slice A n n) ∧ w = w' := by
  unfold maxLen at hmax
  go_enter Try.func38, Try.ntmps38
  go_wp2
  go_ret
  exact ⟨rfl, rfl⟩

/-- What Parse answers. -/
def ParOut (w : World) (R : List FieldV × Nat) (e : Ending) (w' : World) : Prop :=
  ∃ F m cF ps, e = .returned (.tuple #[.slice F m cF, .int .i64 (R.2 : Int)]) ∧ Flds w' F m cF ps ∧ ps.map FA.f = R.1 ∧ Below w.heap.size w w'
theorem flds_nil (w : World) : Flds w none 0 0 [] := ⟨⟨by simp, Nat.le_refl _, Nat.zero_le _, fun _ => rfl, (fun _ h => by cases h), (fun _ h => by cases h), (fun _ h => by cases h)⟩, rfl, (fun _ h => by cases h)⟩
theorem ParOut.bad {w w' : World} {er : Nat} (h : Below w.heap.size w w') : ParOut w ([], er) (.returned (.tuple #[.slice none 0 0, .int .i64 (er : Int)])) w' := ⟨none, 0, 0, [], rfl, flds_nil _, rfl, h⟩
theorem ParSt.out {w wr : World} {bs : List Nat} {R : List FieldV × Nat} {T : TypeId} {k m co : Nat} {Ao : Option Addr} {ps : List FA} (h : ParSt w bs R T k (.slice Ao m co) m ps wr) (hk : bs.length ≤ k) :
    ParOut w R (.returned (.tuple #[.slice Ao m co, .int .i64 0])) wr ∧ ParOut w R (.returned (.tuple #[.slice Ao m m, .int .i64 0])) wr := by
  rw [h.done hk]
  obtain ⟨A, c, hv, hs⟩ := SlS.of_own h.own (flat_one ps)
  injection hv with h1 h2 h3
  subst h1 h3
  exact ⟨⟨_, _, _, ps, rfl, ⟨hs, h.hl, h.txt⟩, rfl, h.bel⟩, ⟨_, _, _, ps, rfl, ⟨hs.clip, h.hl, h.txt⟩, rfl, h.bel⟩⟩

set_option maxHeartbeats 1600000 in
set_option maxRecDepth 100000 in
theorem parse_p (A : Option Addr) (n c : Nat) (bs : List Nat) (w : World) (hb : Sl w A n c (nats .u8 bs)) (hbs : ∀ x ∈ bs, x < 256) (hn : n ≤ 1000000000000) :
    Calls Try.prog 11 #[.slice A n c] w fun e w' => ParOut w (parS bs) e w' := by
  have hlen := hb.len
  rw [nats_length] at hlen
  obtain ⟨i0, hi, hz0, hz1, hz2⟩ := info_parts Try.info57
  by_cases hlong : 262144 < n
  · have hR : parS bs = ([], 4) := by unfold parS; rw [if_pos (by omega)]
    rw [hR]
    clear hR hlen
    go_enter Try.func11, Try.ntmps11
    go_wp2_with fail
    go_ret2
    exact ParOut.bad (Below.refl _ _)
  · have hR : parS bs = parR bs.length bs 0 [] := by unfold parS; rw [if_neg (by omega)]
    have H0 : ParSt w bs (parS bs) 57 0 (.slice none 0 0) 0 [] w := ⟨by rw [hR]; simp, World.ownsRow_nil _ _ _ _, rfl, (fun _ h => by cases h), by omega, Below.refl _ _⟩
    generalize parS bs = R at *
    have Hlen := Lib.hid hlen
    clear hR hlen
    go_enter Try.func11, Try.ntmps11
    go_wp2_with fail
    go_loopw [4, 5] (fun ov av wr => ∃ (k m co : Nat) (Ao : Option Addr) (ps : List FA), k ≤ n ∧ av = .int .i64 (k : Int) ∧ ov = .slice Ao m co ∧ ParSt w bs R 57 k (.slice Ao m co) m ps wr) (fun _ av _ => n - (intOf av).toNat)
    case atStart => exact ⟨0, 0, 0, none, [], by omega, rfl, rfl, H0⟩
    case round =>
      obtain ⟨k, m, co, Ao, ps, hk, rfl, rfl, hst⟩ := hrel
      have hfew := hst.few
      have hbel := hst.bel
      have Hst := Lib.hid hst
      by_cases hlt : k < n
      · have hp1 := hst.par1 (by rw [Hlen.out]; exact hlt)
        by_cases hfull : 4096 ≤ m
        · rw [if_pos hfull] at hp1
          subst hp1
          clear hst
          go_wp2_with fail
          go_ret2
          exact ParOut.bad Hst.out.bel
        · rw [if_neg hfull] at hp1
          have hsz := fldR_size (bs.drop k) k
          have hl := Hlen.out
          rw [List.length_drop, hl] at hsz
          have hfp := field_p A n c bs k wr (hb.keep hbel) hbs hk hn
          generalize hF : fldR (bs.drop k) k = r at hp1 hsz hfp
          obtain ⟨⟨num, wire, u, b, at_⟩, s, er⟩ := r
          simp only at hp1 hsz hfp
          have HF := Lib.hid hF
          have Hfp := Lib.hid hfp
          have Hp1 := Lib.hid hp1
          clear hst hF hfp hp1 hl
          by_cases her : er = 0
          · subst her
            have hs1 := hsz rfl
            clear hsz
            go_wp2_with fail
            refine Hfp.out.mono ?_
            rintro e w1 ⟨B, cB, rfl, ht, hb1⟩
            unfold fldV
            dsimp only
            have ho1 := own_below Hst.out.own hb1
            have bN := heap_alloc2_new w1 (.cells #[.int .i64 (num : Int), .int .i64 (wire : Int), .int .u64 (u : Int), .slice B b.length cB, .int .i64 (at_ : Int)] 57) (.cells #[.int .i64 (num : Int), .int .i64 (wire : Int), .int .u64 (u : Int), .slice B b.length cB, .int .i64 (at_ : Int)] 57)
            have hsz1 := hb1.size
            have hszr := hbel.size
            have HbN := Lib.hid bN
            have Ht := Lib.hid ht
            have Hb1 := Lib.hid hb1
            have Ho1 := Lib.hid ho1
            clear ht hb1 ho1 bN
            go_wp2_with (at_builtin; refine wpList_append_own _ rfl (.tmp 29) (.tmp 31) 24 rfl w.heap.size 57 i0 fz 5 56 Try.underlying24 hi hz0 hz1 hz2 rfl (by decide) (.slice Ao m co) m _ rfl ((Ho1.out.alloc _).alloc _) ⟨w1.heap.size + 1, 0, none⟩ 1 1 (FA.cells ⟨⟨num, wire, u, b, at_⟩, B, cB⟩) rfl rfl ?c1 ?c2 ?c3 ?c4 ?c5 ?_)
            case c1 =>
              intro j x hx
              rw [add_none, Nat.zero_add, cell_of_row _ _ _ _ _ _ HbN.out]
              simpa [FA.cells] using hx
            case c2 => exact FA.one _
            case c3 => unfold maxLen; omega
            case c4 => omega
            case c5 => simp; omega
            intro v' w2 ho2 hg2 _
            have hst2 := Hst.out.step (by rw [Hlen.out]; exact hlt) hfull HF.out ((Hb1.out.alloc hsz1 _).alloc (by simp; omega) _) ((Ht.out.keep (below_new _ _)).keep (below_new _ _)) (by decide) ((Ho1.out.alloc _).alloc _) ho2 hg2
            obtain ⟨A2, c2, rfl, _⟩ := SlS.of_own ho2 (fun u hu => by rcases List.mem_append.1 hu with h | h; exact flat_one ps u h; exact FA.one _ u h)
            have Hst2 := Lib.hid hst2
            clear hst2 ho2 hg2 hbel
            go_wp2_with fail
            exact ⟨⟨k + s, m + 1, c2, A2, _, by omega, by go_num, rfl, Hst2.out⟩, by simp only [intOf]; omega⟩
          · have hp := Hp1.out
            rw [if_pos her] at hp
            subst hp
            have hne : ((er : Int) != 0) = true := by simp; omega
            clear hsz Hp1
            go_wp2_with fail
            refine Hfp.out.mono ?_
            rintro e w1 ⟨B, cB, rfl, ht, hb1⟩
            unfold fldV
            dsimp only
            have Hb1 := Lib.hid hb1
            clear ht hb1
            go_wp2_with fail
            go_ret2
            exact ParOut.bad (((Hst.out.bel.trans (Hb1.out.mono hbel.size))).alloc (Nat.le_trans hbel.size Hb1.out.size) _)
      · have ho := hst.out (by rw [Hlen.out]; omega)
        obtain ⟨_, c3, hv, hs3⟩ := SlS.of_own hst.own (flat_one ps)
        injection hv with h1 h2 h3
        subst h1 h3
        have hle := hs3.le
        have hmax := hs3.max
        have Ho := Lib.hid ho.2
        clear hst ho hs3
        go_wp2_with fail
        refine (clip_fld Ao m co wr hle hmax).mono ?_
        rintro e w1 ⟨rfl, rfl⟩
        go_wp2_with fail
        go_ret2
        exact Ho.out
end Go.Proofs.Ytihclbiohljmlaa
