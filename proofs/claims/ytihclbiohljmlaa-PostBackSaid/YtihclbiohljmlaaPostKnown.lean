/- ingotlaw20.known answers true. -/
import Derived.Test.YtihclbiohljmlaaPostREnc
namespace Go.Proofs.Ytihclbiohljmlaa
open Go.RowKit
set_option linter.unusedVariables false


theorem own_mono {w : World} {b1 b2 : Nat} {e : TypeId} {size n : Nat} {v : Value} {xs : List Value} (h : w.ownsRow b1 e size v n xs) (hb : b2 ≤ b1) : w.ownsRow b2 e size v n xs := by
  refine ⟨h.1, ?_⟩
  rcases h.2 with h1 | ⟨g, cap, cur, hv, hg, hr⟩
  · exact .inl h1
  · exact .inr ⟨g, cap, cur, hv, Nat.le_trans hb hg, hr⟩
/-- A slice that an append takes on, without a write to what is old. -/
def Row1 (w : World) (base : Nat) (v : Value) (n : Nat) (l : List Nat) : Prop :=
  w.ownsRow base 5 1 v n (nats .u8 l) ∨ ∃ A, v = .slice A n n ∧ Sl w A n n (nats .u8 l)
theorem Row1.sl {w : World} {base : Nat} {v : Value} {n : Nat} {l : List Nat} (h : Row1 w base v n l) : ∃ A c, v = .slice A n c ∧ Sl w A n c (nats .u8 l) := by
  rcases h with h | ⟨A, hv, h⟩
  · exact Sl.of_own h (nats_one _ _)
  · exact ⟨A, n, hv, h⟩
theorem Row1.keep {w w' : World} {base : Nat} {v : Value} {n : Nat} {l : List Nat} (h : Row1 w base v n l) (hb : Below w.heap.size w w') : Row1 w' base v n l := by
  rcases h with h | ⟨A, hv, h⟩
  · exact .inl (own_below h hb)
  · exact .inr ⟨A, hv, h.keep hb⟩
theorem run_append_row1 {w : World} {base : Nat} {v : Value} {n : Nat} {l : List Nat} {ty : TypeId} (i : TypeInfo) (hi : Try.prog.info? 5 = some i) (hz : i.zero = some (.int .u8 0)) (hsize : i.size = 1) (hby : i.bytes = 1)
    (hr : Row1 w base v n l) (B : Option Addr) (m c : Nat) (l2 : List Nat) (hs : Sl w B m c (nats .u8 l2)) (hn : n + m ≤ 100000000000000) (hb : base ≤ w.heap.size) :
    ∃ v' w', (Builtin.append_ #[22, 22] ty #[v, .slice B m c]).run Try.prog w = .ok v' w' ∧ Row1 w' base v' (n + m) (l ++ l2) ∧ Below base w w' := by
  rcases hr with hown | ⟨A, rfl, hsl⟩
  · obtain ⟨v', w', h1, h2, h3, _⟩ := run_append_sl (P := Try.prog) w base 22 ty 5 i (.int .u8 0) 1 Try.underlying22 hi hz hsize hby rfl v n _ hown B m c _ hs (by unfold maxLen; omega) (by omega) hb
    exact ⟨v', w', h1, .inl (by rw [nats_append]; exact h2), below_of_grown hown h3 hb⟩
  · by_cases hm : m = 0
    · subst hm
      have hl2 : l2 = [] := List.eq_nil_of_length_eq_zero (by have := hs.len; rwa [nats_length] at this)
      subst hl2
      have hsrc : _root_.Go.Src Try.prog i.size 22 (.slice B 0 c) 0 [] w := by
        rcases B with _ | bd
        · exact _root_.Go.Src.ofNil w Try.underlying22 c
        · exact _root_.Go.Src.ofSlice w Try.underlying22 bd 0 c [] (by simp) (by simp) (by simp)
      exact ⟨_, w, run_append_nothing w 22 22 ty 5 i Try.underlying22 hi A n n (Nat.le_refl _) _ hsrc, .inr ⟨A, rfl, by simpa using hsl⟩, Below.refl _ _⟩
    · rcases B with _ | bd
      · exact absurd (by have := hs.nil rfl; have := hs.le; omega) hm
      · rcases A with _ | ad
        · have hn0 : n = 0 := hsl.nil rfl
          subst hn0
          have hx : l = [] := List.eq_nil_of_length_eq_zero (by have := hsl.len; rwa [nats_length] at this)
          subst hx
          obtain ⟨v', w', hrun, r1, r2, _⟩ := run_append_own (P := Try.prog) w w.heap.size 22 ty 5 i (.int .u8 0) 1 1 Try.underlying22 hi hz hsize hby rfl (by decide) (.slice none 0 0) 0 [] (World.ownsRow_nil w _ _ 1) bd m c _ (by rw [hs.len]; omega) (hs.cells bd rfl) hs.one (by unfold maxLen; omega) (by omega) (Nat.le_refl _)
          exact ⟨v', w', hrun, .inl (own_mono (by simpa using r1) hb), ((Below.refl _ w).grown r2 (Nat.le_refl _) (fun k hk => by cases hk)).mono hb⟩
        · obtain ⟨v', w', hrun, r1, r2⟩ := run_append_arg_grows (P := Try.prog) w 22 ty 5 i (.int .u8 0) 1 1 Try.underlying22 hi hz hsize hby rfl (by decide) ad n n _ (by rw [hsl.len]; omega) (hsl.cells ad rfl) bd m c _ (by rw [hs.len]; omega) (hs.cells bd rfl) (by omega) (by unfold maxLen; omega) (by omega)
          exact ⟨v', w', hrun, .inl (own_mono (by rw [nats_append]; exact r1) hb), ((Below.refl _ w).grown r2 (Nat.le_refl _) (fun k hk => by cases hk)).mono hb⟩
theorem wpList_append_row1 {w : World} {ops : Array Oper} {rest : List Oper} {o : Oper} {a : Act} {Q : Exit → Act → World → Prop} (hgd : o.guard = none) (s x : Operand)
    (ho : o.op = .call { callee := .builtin .append, args := #[s, x], argTypes := #[22, 22] }) (base : Nat) (i : TypeInfo) (hi : Try.prog.info? 5 = some i) (hz : i.zero = some (.int .u8 0)) (hsize : i.size = 1) (hby : i.bytes = 1)
    (v : Value) (n : Nat) (l : List Nat) (hsv : a.eval s = v) (hr : Row1 w base v n l)
    (B : Option Addr) (m c : Nat) (l2 : List Nat) (hx : a.eval x = .slice B m c) (hs : Sl w B m c (nats .u8 l2)) (hn : n + m ≤ 100000000000000) (hb : base ≤ w.heap.size)
    (h : ∀ v' w', Row1 w' base v' (n + m) (l ++ l2) → Below base w w' → wpList Try.prog ops Q rest (a.put o.dst v') w') : wpList Try.prog ops Q (o :: rest) a w :=
  wpList_plain hgd fun _ hK => by
    obtain ⟨v', w', hrun, h2, h3⟩ := run_append_row1 (ty := o.type) i hi hz hsize hby hr B m c l2 hs hn hb
    unfold Oper.wp execOp
    simp only [ho, resolve, invoke, builtin, Sem.run_bind, Sem.run_pure, Result.andThen_ok, List.map_toArray, List.map_cons, List.map_nil, hsv, hx, hrun]
    exact hK _ _ (h v' w' h2 h3)

set_option maxHeartbeats 3200000 in
set_option maxRecDepth 100000 in
theorem rfind_p (A : Option Addr) (n c : Nat) (bs : List Nat) (w : World) (hb : Sl w A n c (nats .u8 bs)) (hbs : ∀ x ∈ bs, x < 256) (hn : n ≤ 100000) :
    Calls Try.prog 33 #[.slice A n c] w fun e w' => FindOut w (findS bs) e w' := by
  obtain ⟨i0, hi, hz0, hz1, hz2⟩ := info_parts Try.info5
  have hlen := hb.len
  rw [nats_length] at hlen
  have hle := hb.le
  have hmax := hb.max
  unfold maxLen at hmax
  unfold findS
  rw [hlen]
  by_cases h0 : n = 0
  · subst h0
    rw [if_pos (List.eq_nil_of_length_eq_zero hlen)]
    clear hb hlen
    go_enter Try.func33, Try.ntmps33
    go_wp2_with fail
    go_ret3
    exact FindOut.bad (Below.refl _ _)
  · rw [if_neg (fun e => h0 (by rw [← hlen, e]; rfl))]
    obtain ⟨b, off, rfl, hbw, hcell⟩ := hb.at_ (by omega)
    obtain ⟨E, rfl⟩ : ∃ E, n = E + 1 := ⟨n - 1, by omega⟩
    have hcl := hcell E (by omega)
    rw [nats_getD _ _ _ (by omega)] at hcl
    have hlb : bs.getD E 0 < 256 := by rw [PackMath.getD_eq _ _ (by omega)]; exact hbs _ (List.getElem_mem _)
    rw [show E + 1 - 1 = E from rfl]
    have hcut : ∀ L, L ≤ E → Sl w (dropA (some ⟨b, off, none⟩) c (E - L)) L (c - (E - L)) (nats .u8 ((bs.drop (E - L)).take L)) := fun L h => by
      have := hb.cut (E - L) E (by omega) (by omega)
      rw [show E - (E - L) = L from by omega] at this
      rw [show nats .u8 ((bs.drop (E - L)).take L) = ((nats .u8 bs).drop (E - L)).take L from by simp [nats, List.map_drop, List.map_take]]
      exact this
    have hsl : ∀ (w : World) (L : Nat), L ≤ E → (Instr.slice 22 (.slice (some ⟨b, off, none⟩) (E + 1) c) (some (.int .i64 ((E : Int) - (L : Int)))) (some (.int .i64 (E : Int))) none).run Try.prog w = .ok (.slice (dropA (some ⟨b, off, none⟩) c (E - L)) L (c - (E - L))) w := fun w L hL => by
      have := run_slice_lohi (w := w) (P := Try.prog) Try.underlying22 hi hz1 (some ⟨b, off, none⟩) (E + 1) c (E - L) E (by omega) (by omega) hb.le hb.max
      rw [show E - (E - L) = L from by omega, show ((E - L : Nat) : Int) = (E : Int) - (L : Int) from by omega] at this
      exact this
    have hq : 3 ≤ E + 1 → (convert 22 9 (.slice (some ⟨b, off, none⟩) 3 c)).run Try.prog w = .ok (.string (strOf (bs.take 3))) w := fun h => by
      have ht := hb.take 3 h
      rw [show (nats .u8 bs).take 3 = nats .u8 (bs.take 3) from by simp [nats]] at ht
      exact run_convert_sl (P := Try.prog) Try.underlying22 Try.underlying5 Try.underlying9 ht
    have h38 : ∀ x ∈ bs.take 3, x < 256 := fun x hx => hbs x (List.mem_of_mem_take hx)
    generalize hL : bs.getD E 0 = L at *
    have Hcut := Lib.hid hcut
    have Hsl := Lib.hid hsl
    have Hb := Lib.hid hb
    have Hq := Lib.hid hq
    have H38 := Lib.hid h38
    clear hcut hsl hb hcell hL hlen hq h38
    by_cases h1 : E + 1 < L + 4
    · rw [if_pos h1]
      go_enter Try.func33, Try.ntmps33
      go_wp2_with fail
      go_ret3
      exact FindOut.bad (Below.refl _ _)
    · rw [if_neg h1]
      have q1 := Hq.out (by omega)
      have hc3 : 3 ≤ c := by omega
      by_cases hm : bs.take 3 = magicB
      · rw [hm, magic_str] at q1
        by_cases hz : L = 0
        · subst hz
          rw [if_pos (.inl rfl)]
          clear hm
          go_enter Try.func33, Try.ntmps33
          go_wp2_with fail
          go_ret3
          exact FindOut.bad (Below.refl _ _)
        · have hzz : ((L : Int) == 0) = false := beq_eq_false_iff_ne.2 (by omega)
          rw [if_neg (by rintro (h | h); exact hz h; exact h hm)]
          have hLE : L ≤ E := by omega
          have hs9 := Hsl.out (w.alloc (.cells #[] 5)) L hLE
          have hc9 := Hcut.out L hLE
          have hes : ((E - L : Nat) : Int) = (E : Int) - (L : Int) := by omega
          generalize (bs.drop (E - L)).take L = R at *
          generalize dropA (some ⟨b, off, none⟩) c (E - L) = A9 at *
          generalize c - (E - L) = c9 at *
          have Hes := Lib.hid hes
          have Hc9 := Lib.hid hc9
          have Hi := Lib.hid hi
          have Hz0 := Lib.hid hz0
          have Hz1 := Lib.hid hz1
          have Hz2 := Lib.hid hz2
          have ho3 : (w.alloc (.cells #[] 5)).ownsRow w.heap.size 5 1 (.slice (some ⟨w.heap.size, 0, none⟩) 0 0) 0 [] := World.ownsRow_made w #[] 0 (Nat.le_refl _) (by decide) rfl
          have Ho3 := Lib.hid ho3
          clear hm hes hc9 hi hz0 hz1 hz2 ho3
          go_enter Try.func33, Try.ntmps33
          go_wp2_with (at_builtin; refine wpList_append_sl rfl (.tmp 32) (.tmp 38) 22 rfl w.heap.size 5 i0 (.int .u8 0) 1 Try.underlying22 Hi.out Hz0.out Hz1.out Hz2.out rfl _ 0 [] rfl Ho3.out A9 L c9 _ rfl (Hc9.out.keep (below_new _ _)) ?c1 ?c2 ?c3 ?_)
          case c1 => unfold maxLen; omega
          case c2 => omega
          case c3 => simp
          intro v' w4 ho4 hb4 _ _
          obtain ⟨B, cB, rfl, sB⟩ := Sl.of_own ho4 (nats_one _ _)
          have HsB := Lib.hid sB
          have Hb2 := Lib.hid ((below_new w (.cells #[] 5)).trans hb4)
          clear ho4 hb4 hs9 sB
          go_wp2_with fail
          go_ret3
          refine ⟨B, cB, L, ?_, HsB.out, Hb2.out⟩
          dsimp only
          rw [Hes.out] <;> rfl
      · rw [if_pos (.inr hm)]
        have hms : (strOf (bs.take 3)).toList ≠ [79, 82, 67] := fun e => hm (strOf_list_inj _ magicB H38.out (by decide) (e.trans magic_list.symm))
        have hmt : ((strOf (bs.take 3)).toList == [79, 82, 67]) = false := beq_eq_false_iff_ne.2 hms
        generalize strOf (bs.take 3) = str at *
        clear hm
        go_enter Try.func33, Try.ntmps33
        go_wp2_with fail
        go_ret3
        exact FindOut.bad (Below.refl _ _)
def kb20 : List Nat := [8, 9, 16, 4, 24, 100, 34, 2, 0, 12, 40, 0, 48, 1, 130, 244, 3, 3, 79, 82, 67]
theorem kenc20 : encS 9 4 100 0 = (kb20, 0) := by decide +kernel
theorem kdec20 : decS kb20 = (⟨9, 4, 100, 0⟩, 0) := by decide +kernel
theorem kfind20 : findS (magicB ++ kb20 ++ [21]) = (kb20, 3, 0) := by decide +kernel
theorem kenc20b : encS 0 2 0 0 = ([], 7) := by decide +kernel

theorem row1_lit (w : World) (l : List Nat) (n : Nat) (fr : Nat × Nat) (base : Nat) (hn : l.length = n) (hm : n ≤ maxLen) : Row1 (w.alloc (.cells (nats .u8 l).toArray 5 fr)) base (.slice (some ⟨w.heap.size, 0, none⟩) n n) n l :=
  .inr ⟨_, rfl, Sl.litw w (nats .u8 l) n _ fr (by rw [nats_length]; exact hn) hm (nats_one _ _)⟩

set_option maxHeartbeats 3200000 in
set_option maxRecDepth 100000 in
theorem known20 (w : World) : Calls Try.prog 29 #[] w fun e w' => e = .returned (.bool true) ∧ Below w.heap.size w w' := by
  obtain ⟨i0, hi, hz0, hz1, hz2⟩ := info_parts Try.info5
  have h1 := encode_p 9 4 100 0 w (by decide)
  rw [kenc20] at h1
  have h6 := fun w => encode_p 0 2 0 0 w (by decide)
  rw [kenc20b] at h6
  have Hi := Lib.hid hi
  have Hz0 := Lib.hid hz0
  have Hz1 := Lib.hid hz1
  have Hz2 := Lib.hid hz2
  have kc := fun (w : World) (C : Array Value) (n c : Nat) => Lib.run_convert_bytes_const (P := Try.prog) w 22 5 C n c Try.underlying22 Try.underlying5
  have H6 := Lib.hid h6
  clear h6 hi hz0 hz1 hz2
  go_enter Try.func29, Try.ntmps29
  go_wp2_with fail
  refine h1.mono ?_
  rintro e w1 ⟨A1, m1, c1, rfl, s1, b1⟩
  dsimp only at s1
  obtain rfl : 21 = m1 := by simpa [nats, kb20] using s1.len
  clear h1
  have h2 := decode_p A1 21 c1 kb20 w1 s1 (by decide) (by decide)
  rw [kdec20] at h2
  have H2 := Lib.hid h2
  have S1 := Lib.hid s1
  have B1 := Lib.hid b1
  clear h2 s1 b1
  go_wp2_with fail
  refine H2.out.mono ?_
  rintro e w2 ⟨rfl, b2⟩
  unfold postV
  dsimp only
  have S2 := Lib.hid (S1.out.keep b2)
  have B2 := Lib.hid (B1.out.trans (b2.mono B1.out.size))
  clear b2
  have hr0 : ∀ o, Row1 ((w2.alloc o).alloc (.cells #[.int .u8 79, .int .u8 82, .int .u8 67] 5 (3, 4))) (w2.heap.size + 1) (.slice (some ⟨w2.heap.size + 1, 0, none⟩) 3 3) 3 magicB := fun o => by
    have := row1_lit (w2.alloc o) magicB 3 (3, 4) (w2.heap.size + 1) rfl (by decide)
    rw [World.size_alloc] at this
    exact this
  have Hr0 := Lib.hid hr0
  have kc2 : ∀ (o : Obj) (C : Array Value) (n c : Nat), (convert 22 22 (.slice (some ⟨w2.heap.size + 1, 0, none⟩) n c)).run Try.prog ((w2.alloc o).alloc (.cells C 5)) = .ok (.slice (some ⟨w2.heap.size + 1, 0, none⟩) n c) ((w2.alloc o).alloc (.cells C 5 (C.size, C.size + 1))) := fun o C n c => by
    have := kc (w2.alloc o) C n c
    rw [World.size_alloc] at this
    exact this
  clear hr0 kc
  go_wp2_with (at_builtin; refine wpList_append_row1 rfl (.tmp 22) (.tmp 23) rfl (w2.heap.size + 1) i0 Hi.out Hz0.out Hz1.out Hz2.out _ 3 magicB rfl (Hr0.out _) A1 21 c1 kb20 rfl ((S2.out.keep (below_new _ _)).keep (below_new _ _)) (by decide) (by simp) ?_)
  intro v3 w3 r3 b3
  have hb23 : Below w2.heap.size w2 w3 := (((Below.refl _ _).alloc (Nat.le_refl _) _).alloc (by simp) _).trans (b3.mono (by omega))
  have hsz3 := b3.size
  simp at hsz3
  have bx3 : w3.heap[w2.heap.size]? = some (.cells #[.int .i64 9, .int .i64 4, .int .i64 100, .int .i64 0] 61 (0, 0)) := (b3.block _ (by omega)).trans (((below_new _ _).block _ (by simp)).trans (heap_alloc_new w2 _))
  have R3 := Lib.hid r3
  have Bx3 := Lib.hid bx3
  have HB23 := Lib.hid hb23
  clear r3 bx3 b3 hb23 kc2
  obtain ⟨Ar, cr, rfl, _⟩ := R3.out.sl
  go_wp2_with (at_builtin; refine wpList_append_row1 rfl (.tmp 24) (.tmp 28) rfl (w2.heap.size + 1) i0 Hi.out Hz0.out Hz1.out Hz2.out _ 24 _ rfl (R3.out.keep (below_new _ _)) (some ⟨w3.heap.size, 0, none⟩) 1 1 [21] rfl (Sl.one_new w3 (.int .u8 21) 5 rfl) (by decide) (by simp; omega) ?_)
  intro v4 w4 r4 b4
  obtain ⟨A4, c4, rfl, s4⟩ := r4.sl
  have hb34 : Below (w2.heap.size + 1) w3 w4 := ((Below.refl _ _).alloc (by omega) _).trans b4
  have h5 := find_p A4 25 c4 (magicB ++ kb20 ++ [21]) w4 s4 (by decide) (by decide)
  rw [kfind20] at h5
  have Bx4 : Hid (w4.heap[w2.heap.size]? = some (.cells #[.int .i64 9, .int .i64 4, .int .i64 100, .int .i64 0] 61 (0, 0))) := Lib.hid ((hb34.block _ (by omega)).trans Bx3.out)
  have HB24 : Hid (Below w2.heap.size w2 w4) := Lib.hid (HB23.out.trans (hb34.mono (by omega)))
  have H5 := Lib.hid h5
  have hsz4 := hb34.size
  clear h5 s4 r4 b4 hb34 R3 Bx3
  go_wp2_with fail
  refine H5.out.mono ?_
  rintro e w5 ⟨B, cB, m5, rfl, s5, b5⟩
  dsimp only at s5
  obtain rfl : 21 = m5 := by simpa [nats, kb20] using s5.len
  have Bx5 : Hid (w5.heap[w2.heap.size]? = some (.cells #[.int .i64 9, .int .i64 4, .int .i64 100, .int .i64 0] 61 (0, 0))) := Lib.hid ((b5.block _ (by omega)).trans Bx4.out)
  have HB25 : Hid (Below w2.heap.size w2 w5) := Lib.hid (HB24.out.trans (b5.mono HB24.out.size))
  have S5 := Lib.hid s5
  have hsz5 := b5.size
  clear s5 b5
  go_wp2_with fail
  refine (H6.out w5).mono ?_
  rintro e w6 ⟨A6, m6, c6, rfl, s6, b6⟩
  have bx6 : w6.heap[w2.heap.size]? = some (.cells #[.int .i64 9, .int .i64 4, .int .i64 100, .int .i64 0] 61 (0, 0)) := (b6.block _ (by omega)).trans Bx5.out
  have d0 : w6.cell? ⟨w2.heap.size, 0, none⟩ = some (.int .i64 9) := by rw [cell_of_row _ _ _ _ _ _ bx6]; rfl
  have d2 : w6.cell? ⟨w2.heap.size, 2, none⟩ = some (.int .i64 100) := by rw [cell_of_row _ _ _ _ _ _ bx6]; rfl
  have q1 := run_convert_sl (P := Try.prog) Try.underlying22 Try.underlying5 Try.underlying9 (S5.out.keep b6)
  have HB26 : Hid (Below w2.heap.size w2 w6) := Lib.hid (HB25.out.trans (b6.mono HB25.out.size))
  have q2 := run_convert_sl (P := Try.prog) Try.underlying22 Try.underlying5 Try.underlying9 (S2.out.keep HB26.out)
  generalize strOf kb20 = str at *
  clear bx6 s6 b6
  go_wp2_with fail
  go_ret
  exact ⟨by first | rfl | simp, B2.out.trans (HB26.out.mono B2.out.size)⟩
end Go.Proofs.Ytihclbiohljmlaa
