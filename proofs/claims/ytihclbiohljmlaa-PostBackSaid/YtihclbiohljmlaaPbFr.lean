/- Where bytes lie that a call makes anew; a row that grows in its place: PutVar, PutUint, PutInt, PutBytes once more, with that told. -/
import Derived.Test.YtihclbiohljmlaaPbPutR
import Derived.Test.YtihclbiohljmlaaPbField4
namespace Go.Proofs.Ytihclbiohljmlaa
open Go.RowKit
set_option linter.unusedVariables false

/-- A slice that was made between two worlds, of one type. -/
structure Fr (e : TypeId) (w w' : World) (A : Option Addr) : Prop where
  lo : ∀ ad, A = some ad → w.heap.size ≤ ad.block
  typ : Typ w' A e
theorem Fr.of_own {e : TypeId} {w w' : World} {base n m c size : Nat} {A : Option Addr} {xs : List Value} (h : w'.ownsRow base e size (.slice A m c) n xs) (hb : w.heap.size ≤ base) : Fr e w w' A :=
  ⟨fun ad hA => Nat.le_trans hb (h.lt ad.block (by subst hA; rfl)).1, Typ.of_own h⟩
theorem Fr.nil (e : TypeId) (w w' : World) : Fr e w w' none := ⟨(fun _ h => by cases h), (fun _ h => by cases h)⟩
theorem Typ.keep {w w' : World} {A : Option Addr} {e : TypeId} (h : Typ w A e) (hb : Below w.heap.size w w') : Typ w' A e := fun ad hA => by
  obtain ⟨cs, fr, hh⟩ := h ad hA
  exact ⟨cs, fr, (hb.block _ (Array.getElem?_eq_some_iff.1 hh).1).trans hh⟩
theorem Fr.keep {e : TypeId} {w w1 w2 : World} {A : Option Addr} (h : Fr e w w1 A) (hb : Below w1.heap.size w1 w2) : Fr e w w2 A := ⟨h.lo, h.typ.keep hb⟩
theorem Fr.mono {e : TypeId} {w w1 w2 : World} {A : Option Addr} (h : Fr e w1 w2 A) (hb : w.heap.size ≤ w1.heap.size) : Fr e w w2 A := ⟨fun ad hA => Nat.le_trans hb (h.lo ad hA), h.typ⟩
theorem Fr.lt {e : TypeId} {w w' : World} {A : Option Addr} (h : Fr e w w' A) : ∀ ad, A = some ad → ad.block < w'.heap.size := fun ad hA => by
  obtain ⟨cs, fr, hh⟩ := h.typ ad hA
  exact (Array.getElem?_eq_some_iff.1 hh).1

/-- A row that grows: nothing else is touched, and it lies where it lay, or anew. -/
structure Gr (w w' : World) (v v' : Value) : Prop where
  grown : w.grownBy w' v.ownBlock
  own : v'.ownBlock = v.ownBlock ∨ ∀ k, v'.ownBlock = some k → w.heap.size ≤ k
theorem Gr.refl (w : World) (v : Value) : Gr w w v v := ⟨World.grownBy.refl w _, .inl rfl⟩
theorem grown_trans {a w w' : World} {r r2 : Option Nat} (h : a.grownBy w r) (k : w.grownBy w' r2) (hr : r2 = r ∨ ∀ k, r2 = some k → a.heap.size ≤ k) : a.grownBy w' r :=
  ⟨k.os.trans h.os, k.tape.trans h.tape, k.output.trans h.output, Nat.le_trans h.size k.size, fun b hb hne => (k.block b (Nat.lt_of_lt_of_le hb h.size) (fun e => by
    rcases hr with hr | hr
    · exact hne (e.trans hr)
    · exact absurd (hr b e.symm) (by omega))).trans (h.block b hb hne)⟩
theorem Gr.trans {w w1 w2 : World} {v v1 v2 : Value} (h : Gr w w1 v v1) (k : Gr w1 w2 v1 v2) : Gr w w2 v v2 :=
  ⟨grown_trans h.grown k.grown h.own, by
    rcases k.own with k1 | k1
    · rw [k1]; exact h.own
    · exact .inr fun b hb => Nat.le_trans h.grown.size (k1 b hb)⟩
theorem Gr.alloc {w w' : World} {v v' : Value} (h : Gr w w' v v') (o : Obj) : Gr w (w'.alloc o) v v' := ⟨grown_trans h.grown (World.grownBy_alloc w' o v.ownBlock) (.inl rfl), h.own⟩
theorem Gr.step {w w1 w' : World} {v v1 v' : Value} (h : Gr w w1 v v1) (hg : w1.grownBy w' v1.ownBlock) (ho : v'.ownBlock = v1.ownBlock ∨ v'.ownBlock = some w1.heap.size) : Gr w w' v v' :=
  h.trans ⟨hg, by
    rcases ho with ho | ho
    · exact .inl ho
    · exact .inr fun k hk => by rw [ho] at hk; cases hk; exact Nat.le_refl _⟩
theorem Gr.sl {w w' : World} {v v' : Value} {A : Option Addr} {n c : Nat} {xs : List Value} (h : Gr w w' v v') (hs : Sl w A n c xs) (hne : ∀ ad, A = some ad → some ad.block ≠ v.ownBlock) : Sl w' A n c xs :=
  ⟨hs.len, hs.le, hs.max, hs.nil, fun ad hA j u hu => by
    have := hs.cells ad hA j u hu
    exact (h.grown.cell_far _ (World.block_lt_of_cell? w _ this) (by rw [block_add]; exact hne ad hA)).trans this, hs.one⟩

section
variable {P : Program}
/-- append onto a slice that is full: where the new one lies. -/
theorem run_append_fullf (w : World) (t ty e : TypeId) (i : TypeInfo) (z : Value) (bytes : Nat) (ht : P.underlying t = some (.slice e)) (hi : P.info? e = some i) (hz : i.zero = some z)
    (hsize : i.size = 1) (hby : i.bytes = bytes) (hzs : z.cells.size = 1)
    (A : Option Addr) (n : Nat) (xs : List Value) (hs : Sl w A n n xs) (B : Option Addr) (m c : Nat) (news : List Value) (hr : Sl w B m c news)
    (h63 : n + m ≤ maxLen) (hbytes : (n + m) * bytes ≤ 140737488355328) :
    ∃ A' c' w', (Builtin.append_ #[t, t] ty #[.slice A n n, .slice B m c]).run P w = .ok (.slice A' (n + m) c') w' ∧ Sl w' A' (n + m) c' (xs ++ news) ∧ Below w.heap.size w w' ∧ (A' = A ∨ Fr e w w' A') := by
  by_cases hm : m = 0
  · subst hm
    have hn : news = [] := List.eq_nil_of_length_eq_zero hr.len
    subst hn
    have hsrc : _root_.Go.Src P i.size t (.slice B 0 c) 0 [] w := by
      rcases B with _ | bd
      · exact _root_.Go.Src.ofNil w ht c
      · exact _root_.Go.Src.ofSlice w ht bd 0 c [] (by simp) (by simp) (by simp)
    exact ⟨A, n, w, run_append_nothing w t t ty e i ht hi A n n (Nat.le_refl _) _ hsrc, by simpa using hs, Below.refl _ _, .inl rfl⟩
  · rcases B with _ | bd
    · exact absurd (by have := hr.nil rfl; have := hr.le; omega) hm
    · have one : ∀ u ∈ xs ++ news, u.oneCell' = true := fun u hu => (List.mem_append.1 hu).elim (hs.one u) (hr.one u)
      rcases A with _ | ad
      · have hn0 : n = 0 := hs.nil rfl
        subst hn0
        have hx : xs = [] := List.eq_nil_of_length_eq_zero hs.len
        subst hx
        obtain ⟨v', w', hrun, r1, r2, _⟩ := run_append_own (P := P) w w.heap.size t ty e i z 1 bytes ht hi hz hsize hby hzs (by decide) (.slice none 0 0) 0 [] (World.ownsRow_nil w _ e 1) bd m c news (by rw [hr.len]; omega) (hr.cells bd rfl) hr.one h63 hbytes (Nat.le_refl _)
        obtain ⟨A', c', rfl, s'⟩ := Sl.of_own r1 one
        exact ⟨A', c', w', hrun, s', (Below.refl _ w).grown r2 (Nat.le_refl _) (fun k hk => by cases hk), .inr (Fr.of_own r1 (Nat.le_refl _))⟩
      · obtain ⟨v', w', hrun, r1, r2⟩ := run_append_arg_grows (P := P) w t ty e i z 1 bytes ht hi hz hsize hby hzs (by decide) ad n n xs (by rw [hs.len]; omega) (hs.cells ad rfl) bd m c news (by rw [hr.len]; omega) (hr.cells bd rfl) (by omega) h63 hbytes
        obtain ⟨A', c', rfl, s'⟩ := Sl.of_own r1 one
        exact ⟨A', c', w', hrun, s', (Below.refl _ w).grown r2 (Nat.le_refl _) (fun k hk => by cases hk), .inr (Fr.of_own r1 (Nat.le_refl _))⟩

theorem wpList_append_fullf {w : World} {ops : Array Oper} {rest : List Oper} {o : Oper} {a : Act} {Q : Exit → Act → World → Prop} (hgd : o.guard = none) (s x : Operand) (t : TypeId)
    (ho : o.op = .call { callee := .builtin .append, args := #[s, x], argTypes := #[t, t] })
    (e : TypeId) (i : TypeInfo) (z : Value) (bytes : Nat) (ht : P.underlying t = some (.slice e)) (hi : P.info? e = some i) (hz : i.zero = some z)
    (hsize : i.size = 1) (hby : i.bytes = bytes) (hzs : z.cells.size = 1)
    (A : Option Addr) (n : Nat) (xs : List Value) (hs : a.eval s = .slice A n n) (hsl : Sl w A n n xs)
    (B : Option Addr) (m c : Nat) (news : List Value) (hx : a.eval x = .slice B m c) (hr : Sl w B m c news)
    (h63 : n + m ≤ maxLen) (hbytes : (n + m) * bytes ≤ 140737488355328)
    (h : ∀ A' c' w', Sl w' A' (n + m) c' (xs ++ news) → Below w.heap.size w w' → (A' = A ∨ Fr e w w' A') → wpList P ops Q rest (a.put o.dst (.slice A' (n + m) c')) w') : wpList P ops Q (o :: rest) a w :=
  wpList_plain hgd fun _ hK => by
    obtain ⟨A', c', w', hrun, h2, h3, h4⟩ := run_append_fullf (P := P) w t o.type e i z bytes ht hi hz hsize hby hzs A n xs hsl B m c news hr h63 hbytes
    unfold Oper.wp execOp
    simp only [ho, resolve, invoke, builtin, Sem.run_bind, Sem.run_pure, Result.andThen_ok, List.map_toArray, List.map_cons, List.map_nil, hs, hx, hrun]
    exact hK _ _ (h A' c' w' h2 h3 h4)
end

set_option maxHeartbeats 1600000 in
set_option maxRecDepth 4000 in
theorem putvar_pf (A : Option Addr) (n c : Nat) (bs : List Nat) (v : Nat) (w : World) (hb : Sl w A n c (nats .u8 bs)) (hv : v < 18446744073709551616) (hsz : n ≤ 100000000000000) :
    Calls Try.prog 50 #[.slice A n c, .int .u64 (v : Int)] w fun e w' => ∃ A' m, e = .returned (.slice A' m m) ∧ Sl w' A' m m (nats .u8 (bs ++ varP v)) ∧ Below w.heap.size w w' ∧ Fr 5 w w' A' := by
  obtain ⟨i0, hi, hz0, hz1, hz2⟩ := info_parts Try.info5
  go_enter Try.func50, Try.ntmps50
  go_wp2_with (go_at_call 44; refine (clone_u8 _ _ _ _ _ hb (by omega)).mono ?_; rintro e w1 ⟨ov, rfl, hown, hb1⟩)
  go_loopw [1, 5] (fun vv ov wr => ∃ (x : Nat) (pre : List Nat), vv = .int .u64 (x : Int) ∧ PVar w w.heap.size n bs (varP v) x pre ov wr) (fun vv _ _ => (intOf vv).toNat)
  case atStart => exact ⟨v, [], rfl, by simp, by simpa using hv, rfl, by simpa using hown, hb1⟩
  case round =>
    obtain ⟨x, pre, rfl, hP⟩ := hrel
    have hfew := hP.few
    have hown1 := hP.own
    have hbel := hP.bel
    have hx64 : x < 18446744073709551616 := Nat.lt_of_lt_of_le hP.small (Nat.pow_le_pow_right (n := 2) (j := 64) (by decide) (by omega))
    have HP := Lib.hid hP
    have hBs := hbel.size
    clear hP
    by_cases hx : x < 128
    · have e : (x : Int) % 256 = (x : Int) := by omega
      go_wp2_with (at_builtin; refine wpList_append_sl rfl _ _ 22 rfl w.heap.size 5 i0 (.int .u8 0) 1 Try.underlying22 hi hz0 hz1 hz2 rfl _ _ _ rfl (hown1.alloc _) _ 1 1 _ rfl (Sl.one_new wr (.int .u8 (x : Int)) 5 rfl) ?c1 ?c2 ?c3 ?_)
      case c1 => unfold maxLen; omega
      case c2 => omega
      case c3 => simp; omega
      intro v' w' h1 h2 _ _
      have h3 := HP.out.last hx h1
      obtain ⟨A', c', hv', hs⟩ := Sl.of_own h3 (nats_one _ _)
      subst hv'
      have HF := Lib.hid (Fr.of_own (w := w) h3 (Nat.le_refl _))
      have Hb2 := Lib.hid ((hbel.alloc hbel.size _).trans h2)
      clear e h1 h3
      go_wp2_with (go_at_call 43; refine (clip_u8 _ _ _ _ _ hs).mono ?_; rintro e w1 ⟨rfl, hs2, rfl⟩)
      go_ret
      exact ⟨_, _, rfl, hs2, Hb2.out, HF.out⟩
    · generalize hz : x % 128 + 128 = z
      have e := more_p x
      rw [hz] at e
      have Hz := Lib.hid hz
      clear hz
      go_wp2_with (at_builtin; refine wpList_append_sl rfl _ _ 22 rfl w.heap.size 5 i0 (.int .u8 0) 1 Try.underlying22 hi hz0 hz1 hz2 rfl _ _ _ rfl (hown1.alloc _) _ 1 1 _ rfl (Sl.one_new wr (.int .u8 (z : Int)) 5 rfl) ?c1 ?c2 ?c3 ?_)
      case c1 => unfold maxLen; omega
      case c2 => omega
      case c3 => simp; omega
      intro v' w' h1 h2 _ _
      have Hb2 := Lib.hid ((Below.refl _ _).alloc hBs _ |>.trans h2)
      have HP2 := Lib.hid (HP.out.more hx z Hz.out h1 Hb2.out)
      clear h1 h2
      go_wp2_with fail
      exact ⟨⟨x / 128, _, by first | rfl | simp, HP2.out⟩, by simp only [intOf]; omega⟩


set_option maxHeartbeats 1600000 in
set_option maxRecDepth 4000 in
theorem putvar_rg (base n : Nat) (bs : List Nat) (v : Nat) (ov : Value) (w : World) (hown : w.ownsRow base 5 1 ov n (nats .u8 bs)) (hB : base ≤ w.heap.size) (hv : v < 18446744073709551616) (hsz : n ≤ 100000000000000) :
    Calls Try.prog 52 #[ov, .int .u64 (v : Int)] w fun e w' => ∃ v', e = .returned v' ∧ w'.ownsRow base 5 1 v' (n + (varP v).length) (nats .u8 (bs ++ varP v)) ∧ Below base w w' ∧ Gr w w' ov v' := by
  obtain ⟨i0, hi, hz0, hz1, hz2⟩ := info_parts Try.info5
  go_enter Try.func52, Try.ntmps52
  go_wp2_with fail
  go_loopw [0, 1] (fun ov2 vv wr => ∃ (x : Nat) (pre : List Nat), vv = .int .u64 (x : Int) ∧ PVar w base n bs (varP v) x pre ov2 wr ∧ Gr w wr ov ov2) (fun _ vv _ => (intOf vv).toNat)
  case atStart => exact ⟨v, [], rfl, ⟨by simp, by simpa using hv, rfl, by simpa using hown, Below.refl _ _⟩, Gr.refl _ _⟩
  case round =>
    obtain ⟨x, pre, rfl, hP, hG⟩ := hrel
    have HG := Lib.hid hG
    clear hG
    have hfew := hP.few
    have hown1 := hP.own
    have hbel := hP.bel
    have hx64 : x < 18446744073709551616 := Nat.lt_of_lt_of_le hP.small (Nat.pow_le_pow_right (n := 2) (j := 64) (by decide) (by omega))
    have HP := Lib.hid hP
    have hBs : base ≤ wr.heap.size := Nat.le_trans hB hbel.size
    clear hP
    by_cases hx : x < 128
    · have e : (x : Int) % 256 = (x : Int) := by omega
      go_wp2_with (at_builtin; refine wpList_append_sl rfl _ _ 22 rfl base 5 i0 (.int .u8 0) 1 Try.underlying22 hi hz0 hz1 hz2 rfl _ _ _ rfl (hown1.alloc _) _ 1 1 _ rfl (Sl.one_new wr (.int .u8 (x : Int)) 5 rfl) ?c1 ?c2 ?c3 ?_)
      case c1 => unfold maxLen; omega
      case c2 => omega
      case c3 => simp; omega
      intro v' w' h1 h2 hg ho
      have HG2 := Lib.hid ((HG.out.alloc _).step hg (by simpa using ho))
      clear hg ho
      have H3 := Lib.hid (HP.out.last hx h1)
      have Hb2 := Lib.hid ((hbel.alloc hBs _).trans h2)
      clear e h1
      go_wp2_with fail
      go_ret
      exact ⟨_, rfl, H3.out, Hb2.out, HG2.out⟩
    · generalize hz : x % 128 + 128 = z
      have e := more_r x hx64
      rw [hz] at e
      have Hz := Lib.hid hz
      clear hz
      go_wp2_with (at_builtin; refine wpList_append_sl rfl _ _ 22 rfl base 5 i0 (.int .u8 0) 1 Try.underlying22 hi hz0 hz1 hz2 rfl _ _ _ rfl (hown1.alloc _) _ 1 1 _ rfl (Sl.one_new wr (.int .u8 (z : Int)) 5 rfl) ?c1 ?c2 ?c3 ?_)
      case c1 => unfold maxLen; omega
      case c2 => omega
      case c3 => simp; omega
      intro v' w' h1 h2 hg ho
      have HG2 := Lib.hid ((HG.out.alloc _).step hg (by simpa using ho))
      clear hg ho
      have Hb2 := Lib.hid ((Below.refl _ _).alloc hBs _ |>.trans h2)
      have HP2 := Lib.hid (HP.out.more hx z Hz.out h1 Hb2.out)
      clear h1 h2
      go_wp2_with fail
      exact ⟨⟨x / 128, _, by first | rfl | simp, HP2.out, HG2.out⟩, by simp only [intOf]; omega⟩

set_option maxHeartbeats 1600000 in
set_option maxRecDepth 4000 in
theorem head_yes_f (A : Option Addr) (n c : Nat) (bs : List Nat) (k wire : Nat) (w : World) (hb : Sl w A n c (nats .u8 bs)) (h1 : 1 ≤ k) (h2 : k ≤ 536870911) (hw : wire < 8) (hsz : n ≤ 100000000000000) :
    Calls Try.prog 49 #[.slice A n c, .int .i64 (k : Int), .int .i64 (wire : Int)] w fun e w' => ∃ A' m, e = .returned (.tuple #[.slice A' m m, .bool true]) ∧ Sl w' A' m m (nats .u8 (bs ++ varP (k * 8 + wire))) ∧ Below w.heap.size w w' ∧ Fr 5 w w' A' := by
  have e1 := or_wire k wire h2 hw
  go_enter Try.func49, Try.ntmps49
  go_wp2_with (go_at_call 50; refine (putvar_pf A n c bs (k * 8 + wire) _ hb (by omega) hsz).mono ?_; rintro e w1 ⟨A', m, rfl, hs, hb1, hF⟩)
  go_ret2
  exact ⟨_, _, rfl, hs, hb1, hF⟩


set_option maxHeartbeats 1600000 in
set_option maxRecDepth 4000 in
theorem head_no_f (A : Option Addr) (n c : Nat) (bs : List Nat) (num : Int) (wire : Nat) (w : World) (hb : Sl w A n c (nats .u8 bs)) (hn : num < 1 ∨ 536870911 < num) (hw : wire < 8) (hsz : n ≤ 100000000000000) :
    Calls Try.prog 49 #[.slice A n c, .int .i64 num, .int .i64 (wire : Int)] w fun e w' => ∃ A' c', e = .returned (.tuple #[.slice A' n c', .bool false]) ∧ Sl w' A' n c' (nats .u8 bs) ∧ Below w.heap.size w w' ∧ Fr 5 w w' A' := by
  rcases hn with hn | hn
  all_goals
    go_enter Try.func49, Try.ntmps49
    go_wp2_with (go_at_call 44; refine (clone_u8 _ _ _ _ _ hb (by omega)).mono ?_; rintro e w1 ⟨ov, rfl, hown, hb1⟩)
    obtain ⟨A', c', rfl, hs⟩ := Sl.of_own hown (nats_one _ _)
    have HF := Lib.hid (Fr.of_own (w := w) hown (Nat.le_refl _))
    clear hown
    go_ret2
    exact ⟨_, _, rfl, hs, hb1, HF.out⟩


set_option maxHeartbeats 1600000 in
set_option maxRecDepth 4000 in
theorem putuint_pf (A : Option Addr) (n c : Nat) (bs : List Nat) (num : Int) (v : Nat) (w : World) (hb : Sl w A n c (nats .u8 bs)) (hv : v < 18446744073709551616) (hsz : n ≤ 10000000000000) :
    Calls Try.prog 23 #[.slice A n c, .int .i64 num, .int .u64 (v : Int)] w fun e w' => ∃ A' m c', e = .returned (.slice A' m c') ∧ Sl w' A' m c' (nats .u8 (bs ++ putU num v)) ∧ Below w.heap.size w w' ∧ Fr 5 w w' A' := by
  by_cases hm : mayF num
  · obtain ⟨k, rfl⟩ : ∃ k : Nat, num = (k : Int) := ⟨num.toNat, by have := hm.1; omega⟩
    have hp : putU (k : Int) v = varP (k * 8) ++ varP v := by unfold putU; rw [if_pos hm]; rfl
    rw [hp]
    have h1 := hm.1
    have h2 := hm.2
    have Hk : Hid (1 ≤ k ∧ k ≤ 536870911) := ⟨by omega, by omega⟩
    have Hv := Lib.hid hv
    clear hp hm h1 h2 hv
    go_enter Try.func23, Try.ntmps23
    go_wp2_with fail
    refine (head_yes_f A n c bs k 0 w hb Hk.out.1 Hk.out.2 (by decide) (by omega)).mono ?_
    rintro e w1 ⟨A', m, rfl, hs, hb1, hF1⟩
    clear hF1
    have hml : m = bs.length + (varP (k * 8)).length := by have := hs.len; rw [nats_length, List.length_append] at this; exact this.symm
    have hpl := (pv_length 9 (k * 8)).2
    have hmle : m ≤ 100000000000000 := by have := hb.len; rw [nats_length] at this; unfold varP at hml; omega
    clear hml hpl
    go_wp2_with fail
    refine (putvar_pf A' m m (bs ++ varP (k * 8)) v w1 hs Hv.out hmle).mono ?_
    rintro e w2 ⟨A2, m2, rfl, hs2, hb2, hF2⟩
    have HF := Lib.hid (hF2.mono hb1.size)
    clear hF2
    go_wp2_with fail
    go_ret
    exact ⟨_, _, _, rfl, by rw [← List.append_assoc]; exact hs2, below_trans' hb1 hb2, HF.out⟩
  · have hp : putU num v = [] := by unfold putU; rw [if_neg hm]
    rw [hp, List.append_nil]
    have Hn : Hid (num < 1 ∨ 536870911 < num) := Lib.hid (by unfold mayF at hm; omega)
    clear hp hm
    go_enter Try.func23, Try.ntmps23
    go_wp2_with fail
    refine (head_no_f A n c bs num 0 w hb Hn.out (by decide) (by omega)).mono ?_
    rintro e w1 ⟨A', c', rfl, hs, hb1, hF⟩
    have HF := Lib.hid hF
    clear hF
    go_wp2_with fail
    go_ret
    exact ⟨_, _, _, rfl, hs, hb1, HF.out⟩


set_option maxHeartbeats 1600000 in
theorem putint_pf (A : Option Addr) (n c : Nat) (bs : List Nat) (num v : Int) (w : World) (hb : Sl w A n c (nats .u8 bs)) (hv : InI v) (hsz : n ≤ 10000000000000) :
    Calls Try.prog 25 #[.slice A n c, .int .i64 num, .int .i64 v] w fun e w' => ∃ A' m c', e = .returned (.slice A' m c') ∧ Sl w' A' m c' (nats .u8 (bs ++ putU num (zigS v).toNat)) ∧ Below w.heap.size w w' ∧ Fr 5 w w' A' := by
  have hz : zigS v = ((zigS v).toNat : Int) ∧ (zigS v).toNat < 18446744073709551616 := by
    obtain ⟨a1, a2⟩ := hv
    unfold zigS
    split <;> omega
  obtain ⟨h1, h2⟩ := hz
  have H1 := Lib.hid h1
  have H2 := Lib.hid h2
  have Hv := Lib.hid hv
  clear h1 h2 hv
  go_enter Try.func25, Try.ntmps25
  go_wp2_with fail
  refine (zig_p v w Hv.out).mono ?_
  rintro e w1 ⟨rfl, rfl⟩
  go_wp2_with fail
  rw [H1.out]
  refine (putuint_pf A n c bs num _ _ hb H2.out hsz).mono ?_
  rintro e w2 ⟨A2, m2, c2, rfl, hs2, hb2, hF⟩
  have HF := Lib.hid hF
  clear hF
  go_wp2_with fail
  go_ret
  exact ⟨_, _, _, rfl, hs2, hb2, HF.out⟩


set_option maxHeartbeats 1600000 in
set_option maxRecDepth 4000 in
theorem putbytes_pf (A : Option Addr) (n c : Nat) (bs : List Nat) (num : Int) (B : Option Addr) (m cb : Nat) (l : List Nat) (w : World) (hb : Sl w A n c (nats .u8 bs)) (hl : Sl w B m cb (nats .u8 l)) (hsz : n ≤ 1000000000000) (hsm : m ≤ 1000000000000) :
    Calls Try.prog 27 #[.slice A n c, .int .i64 num, .slice B m cb] w fun e w' => ∃ A' m' c', e = .returned (.slice A' m' c') ∧ Sl w' A' m' c' (nats .u8 (bs ++ putT num l)) ∧ Below w.heap.size w w' ∧ Fr 5 w w' A' := by
  obtain ⟨i0, hi, hz0, hz1, hz2⟩ := info_parts Try.info5
  by_cases hm : mayF num
  · obtain ⟨k, rfl⟩ : ∃ k : Nat, num = (k : Int) := ⟨num.toNat, by have := hm.1; omega⟩
    have hll : l.length = m := by have := hl.len; rw [nats_length] at this; exact this
    have hp : putT (k : Int) l = varP (k * 8 + 2) ++ varP m ++ l := by unfold putT; rw [if_pos hm, hll]; rfl
    rw [hp]
    have h1 := hm.1
    have h2 := hm.2
    have Hk : Hid (1 ≤ k ∧ k ≤ 536870911) := ⟨by omega, by omega⟩
    clear hp hm h1 h2 hll
    go_enter Try.func27, Try.ntmps27
    go_wp2_with fail
    refine (head_yes_f A n c bs k 2 w hb Hk.out.1 Hk.out.2 (by decide) (by omega)).mono ?_
    rintro e w1 ⟨A', m1, rfl, hs, hb1, hF1⟩
    clear hF1
    have hml : m1 = bs.length + (varP (k * 8 + 2)).length := by have := hs.len; rw [nats_length, List.length_append] at this; exact this.symm
    have hpl := (pv_length 9 (k * 8 + 2)).2
    have hmle : m1 ≤ 1000000000010 := by have := hb.len; rw [nats_length] at this; unfold varP at hml; omega
    have hl1 := hl.keep hb1
    clear hml hpl
    go_wp2_with fail
    refine (putvar_pf A' m1 m1 (bs ++ varP (k * 8 + 2)) m w1 hs (by omega) (by omega)).mono ?_
    rintro e w2 ⟨A2, m2, rfl, hs2, hb2, hF2⟩
    have HF2 := Lib.hid (hF2.mono hb1.size)
    clear hF2
    have hml2 : m2 = m1 + (varP m).length := by have := hs2.len; have h1 := hs.len; rw [nats_length, List.length_append] at this; rw [nats_length] at h1; omega
    have hpl2 := (pv_length 9 m).2
    have hmle2 : m2 ≤ 1000000000020 := by unfold varP at hml2; omega
    have hl2 := hl1.keep hb2
    clear hml2 hpl2
    go_wp2_with (at_builtin; refine wpList_append_fullf rfl (.tmp 22) (.tmp 23) 22 rfl 5 i0 (.int .u8 0) 1 Try.underlying22 hi hz0 hz1 hz2 rfl A2 m2 _ rfl hs2 B m cb _ rfl hl2 ?c1 ?c2 ?_)
    case c1 => unfold maxLen; omega
    case c2 => omega
    intro A3 c3 w3 hs3 hb3 hF3
    have hF : Fr 5 w w3 A3 := by
      rcases hF3 with rfl | h
      · exact HF2.out.keep hb3
      · exact h.mono (below_trans' hb1 hb2).size
    have HF := Lib.hid hF
    clear hF hF3
    go_wp2_with fail
    refine (clip_u8 A3 (m2 + m) c3 _ w3 hs3).mono ?_
    rintro e w4 ⟨rfl, hs4, rfl⟩
    go_wp2_with fail
    go_ret
    refine ⟨_, _, _, rfl, ?_, below_trans' (below_trans' hb1 hb2) hb3, HF.out⟩
    rw [← nats_append, List.append_assoc, List.append_assoc] at hs4
    rw [List.append_assoc]
    exact hs4
  · have hp : putT num l = [] := by unfold putT; rw [if_neg hm]
    rw [hp, List.append_nil]
    have Hn : Hid (num < 1 ∨ 536870911 < num) := Lib.hid (by unfold mayF at hm; omega)
    clear hp hm
    go_enter Try.func27, Try.ntmps27
    go_wp2_with fail
    refine (head_no_f A n c bs num 2 w hb Hn.out (by decide) (by omega)).mono ?_
    rintro e w1 ⟨A', c', rfl, hs, hb1, hF⟩
    have HF := Lib.hid hF
    clear hF
    go_wp2_with fail
    go_ret
    exact ⟨_, _, _, rfl, hs, hb1, HF.out⟩


set_option maxHeartbeats 1600000 in
set_option maxRecDepth 4000 in
theorem putuint_rg (base n : Nat) (bs : List Nat) (num : Int) (v : Nat) (ov : Value) (w : World) (hown : w.ownsRow base 5 1 ov n (nats .u8 bs)) (hB : base ≤ w.heap.size) (hv : v < 18446744073709551616) (hsz : n ≤ 1000000000000) :
    Calls Try.prog 24 #[ov, .int .i64 num, .int .u64 (v : Int)] w fun e w' => ∃ v', e = .returned v' ∧ w'.ownsRow base 5 1 v' (n + (putU num v).length) (nats .u8 (bs ++ putU num v)) ∧ Below base w w' ∧ Gr w w' ov v' := by
  by_cases hm : mayF num
  · obtain ⟨k, rfl⟩ : ∃ k : Nat, num = (k : Int) := ⟨num.toNat, by have := hm.1; omega⟩
    have hp : putU (k : Int) v = varP (k * 8) ++ varP v := by unfold putU; rw [if_pos hm]; rfl
    rw [hp]
    have hd : decide (mayF (k : Int)) = true := decide_eq_true hm
    have h1 := hm.1
    have h2 := hm.2
    have Hk : Hid (1 ≤ k ∧ k ≤ 536870911) := ⟨by omega, by omega⟩
    have ek : IntKind.u64.wrap (k : Int) = (k : Int) := by rw [IntKind.wrap_u64]; omega
    have ek8 : (k : Int) * 8 = ((k * 8 : Nat) : Int) := by omega
    have Hv := Lib.hid hv
    have Hek8 := Lib.hid ek8
    have Hd := Lib.hid hd
    clear hp hm h1 h2 hv ek8 hd
    go_enter Try.func24, Try.ntmps24
    go_wp2_with fail
    refine (may_r (k : Int) w).mono ?_
    rintro e w1 ⟨rfl, rfl⟩
    rw [Hd.out]
    have hkb : (k : Int) ≤ 536870911 := by have := Hk.out.2; omega
    go_wp2_with fail
    rw [Hek8.out]
    refine (putvar_rg base n bs (k * 8) ov _ hown hB (by have := Hk.out.2; omega) (by omega)).mono ?_
    rintro e w2 ⟨v2, rfl, ho2, hb2, hG2⟩
    have HG2 := Lib.hid hG2
    clear hG2
    have hpl := (pv_length 9 (k * 8)).2
    go_wp2_with fail
    refine (putvar_rg base _ _ v v2 _ ho2 (Nat.le_trans hB hb2.size) Hv.out (by unfold varP; omega)).mono ?_
    rintro e w3 ⟨v3, rfl, ho3, hb3, hG3⟩
    have HG3 := Lib.hid (HG2.out.trans hG3)
    clear hG3
    go_wp2_with fail
    go_ret
    refine ⟨_, rfl, ?_, hb2.trans hb3, HG3.out⟩
    rw [List.append_assoc, Nat.add_assoc] at ho3
    rw [List.length_append]
    exact ho3
  · have hp : putU num v = [] := by unfold putU; rw [if_neg hm]
    rw [hp, List.append_nil]
    have Hd : Hid (decide (mayF num) = false) := Lib.hid (decide_eq_false hm)
    clear hp hm
    go_enter Try.func24, Try.ntmps24
    go_wp2_with fail
    refine (may_r num w).mono ?_
    rintro e w1 ⟨rfl, rfl⟩
    rw [Hd.out]
    go_wp2_with fail
    go_ret
    exact ⟨_, rfl, hown, Below.refl _ _, Gr.refl _ _⟩

set_option maxHeartbeats 1600000 in
theorem putint_rg (base n : Nat) (bs : List Nat) (num v : Int) (ov : Value) (w : World) (hown : w.ownsRow base 5 1 ov n (nats .u8 bs)) (hB : base ≤ w.heap.size) (hv : InI v) (hsz : n ≤ 1000000000000) :
    Calls Try.prog 26 #[ov, .int .i64 num, .int .i64 v] w fun e w' => ∃ v', e = .returned v' ∧ w'.ownsRow base 5 1 v' (n + (putU num (zigS v).toNat).length) (nats .u8 (bs ++ putU num (zigS v).toNat)) ∧ Below base w w' ∧ Gr w w' ov v' := by
  have hz : zigS v = ((zigS v).toNat : Int) ∧ (zigS v).toNat < 18446744073709551616 := by
    obtain ⟨a1, a2⟩ := hv
    unfold zigS
    split <;> omega
  obtain ⟨h1, h2⟩ := hz
  have H1 := Lib.hid h1
  have H2 := Lib.hid h2
  have Hv := Lib.hid hv
  clear h1 h2 hv
  go_enter Try.func26, Try.ntmps26
  go_wp2_with fail
  refine (zig_r v w Hv.out).mono ?_
  rintro e w1 ⟨rfl, rfl⟩
  go_wp2_with fail
  rw [H1.out]
  refine (putuint_rg base n bs num _ ov _ hown hB H2.out hsz).mono ?_
  rintro e w2 ⟨v2, rfl, ho2, hb2, hG2⟩
  have HG2 := Lib.hid hG2
  clear hG2
  go_wp2_with fail
  go_ret
  exact ⟨_, rfl, ho2, hb2, HG2.out⟩


set_option maxHeartbeats 1600000 in
set_option maxRecDepth 4000 in
theorem putbytes_rg (base n : Nat) (bs : List Nat) (num : Int) (ov : Value) (B : Option Addr) (m cb : Nat) (l : List Nat) (w : World) (hown : w.ownsRow base 5 1 ov n (nats .u8 bs)) (hB : base ≤ w.heap.size)
    (hl : Sl w B m cb (nats .u8 l)) (hlow : ∀ w', Below base w w' → Sl w' B m cb (nats .u8 l)) (hsz : n ≤ 1000000000000) (hsm : m ≤ 1000000000000) :
    Calls Try.prog 28 #[ov, .int .i64 num, .slice B m cb] w fun e w' => ∃ v', e = .returned v' ∧ w'.ownsRow base 5 1 v' (n + (putT num l).length) (nats .u8 (bs ++ putT num l)) ∧ Below base w w' ∧ Gr w w' ov v' := by
  obtain ⟨i0, hi, hz0, hz1, hz2⟩ := info_parts Try.info5
  by_cases hm : mayF num
  · obtain ⟨k, rfl⟩ : ∃ k : Nat, num = (k : Int) := ⟨num.toNat, by have := hm.1; omega⟩
    have hll : l.length = m := by have := hl.len; rw [nats_length] at this; exact this
    have hp : putT (k : Int) l = varP (k * 8 + 2) ++ varP m ++ l := by unfold putT; rw [if_pos hm, hll]; rfl
    rw [hp]
    have hd : decide (mayF (k : Int)) = true := decide_eq_true hm
    have h1 := hm.1
    have h2 := hm.2
    have Hk : Hid (1 ≤ k ∧ k ≤ 536870911) := ⟨by omega, by omega⟩
    have or2 := or_wire k 2 Hk.out.2 (by decide)
    rw [show ((2 : Nat) : Int) = 2 from rfl] at or2
    have Hd := Lib.hid hd
    have HL := Lib.hid hll
    clear hp hm h1 h2 hd hll
    go_enter Try.func28, Try.ntmps28
    go_wp2_with fail
    refine (may_r (k : Int) w).mono ?_
    rintro e w1 ⟨rfl, rfl⟩
    rw [Hd.out]
    have hkb : (k : Int) ≤ 536870911 := by have := Hk.out.2; omega
    go_wp2_with fail
    refine (putvar_rg base n bs (k * 8 + 2) ov _ hown hB (by have := Hk.out.2; omega) (by omega)).mono ?_
    rintro e w2 ⟨v2, rfl, ho2, hb2, hG2⟩
    have HG2 := Lib.hid hG2
    clear hG2
    have hpl : (varP (k * 8 + 2)).length ≤ 10 := (pv_length 9 (k * 8 + 2)).2
    have hl2 := hlow _ hb2
    go_wp2_with fail
    refine (putvar_rg base _ _ m v2 _ ho2 (Nat.le_trans hB hb2.size) (by omega) (by omega)).mono ?_
    rintro e w3 ⟨v3, rfl, ho3, hb3, hG3⟩
    have HG3 := Lib.hid (HG2.out.trans hG3)
    clear hG3
    have hpl2 : (varP m).length ≤ 10 := (pv_length 9 m).2
    have hl3 := hlow _ (hb2.trans hb3)
    have hB3 : base ≤ w3.heap.size := Nat.le_trans hB (hb2.trans hb3).size
    generalize hN : n + (varP (k * 8 + 2)).length + (varP m).length = N at *
    have hNl : N ≤ 1000000000020 := by omega
    have HN := Lib.hid hN
    clear hN hpl hpl2
    go_wp2_with (at_builtin; refine wpList_append_sl rfl (.tmp 20) (.tmp 21) 22 rfl base 5 i0 (.int .u8 0) 1 Try.underlying22 hi hz0 hz1 hz2 rfl _ N _ rfl ho3 B m cb _ rfl hl3 ?c1 ?c2 ?c3 ?_)
    case c1 => unfold maxLen; omega
    case c2 => omega
    case c3 => exact hB3
    intro v4 w4 ho4 hb4 hg4 hv4
    have HG4 := Lib.hid (HG3.out.step hg4 hv4)
    clear hg4 hv4
    go_wp2_with fail
    go_ret
    refine ⟨_, rfl, ?_, (hb2.trans hb3).trans hb4, HG4.out⟩
    rw [← nats_append, List.append_assoc, List.append_assoc] at ho4
    rw [List.append_assoc, List.length_append, List.length_append, HL.out, show n + ((varP (k * 8 + 2)).length + ((varP m).length + m)) = N + m from by rw [← HN.out]; omega]
    exact ho4
  · have hp : putT num l = [] := by unfold putT; rw [if_neg hm]
    rw [hp, List.append_nil]
    have Hd : Hid (decide (mayF num) = false) := Lib.hid (decide_eq_false hm)
    clear hp hm
    go_enter Try.func28, Try.ntmps28
    go_wp2_with fail
    refine (may_r num w).mono ?_
    rintro e w1 ⟨rfl, rfl⟩
    rw [Hd.out]
    go_wp2_with fail
    go_ret
    exact ⟨_, rfl, hown, Below.refl _ _, Gr.refl _ _⟩


theorem Gr.low {w w' : World} {v v' : Value} {A : Option Addr} {n c : Nat} {xs : List Value} (h : Gr w w' v v') (hs : Sl w A n c xs) (hne : ∀ ad, A = some ad → some ad.block ≠ v.ownBlock) : Sl w' A n c xs := h.sl hs hne

set_option maxHeartbeats 1600000 in
set_option maxRecDepth 4000 in
theorem putbytes_rh (base n : Nat) (bs : List Nat) (num : Int) (ov : Value) (B : Option Addr) (m cb : Nat) (l : List Nat) (w : World) (hown : w.ownsRow base 5 1 ov n (nats .u8 bs)) (hB : base ≤ w.heap.size)
    (hl : Sl w B m cb (nats .u8 l)) (hlow : ∀ w' v', Below base w w' → Gr w w' ov v' → Sl w' B m cb (nats .u8 l)) (hsz : n ≤ 1000000000000) (hsm : m ≤ 1000000000000) :
    Calls Try.prog 28 #[ov, .int .i64 num, .slice B m cb] w fun e w' => ∃ v', e = .returned v' ∧ w'.ownsRow base 5 1 v' (n + (putT num l).length) (nats .u8 (bs ++ putT num l)) ∧ Below base w w' ∧ Gr w w' ov v' := by
  obtain ⟨i0, hi, hz0, hz1, hz2⟩ := info_parts Try.info5
  by_cases hm : mayF num
  · obtain ⟨k, rfl⟩ : ∃ k : Nat, num = (k : Int) := ⟨num.toNat, by have := hm.1; omega⟩
    have hll : l.length = m := by have := hl.len; rw [nats_length] at this; exact this
    have hp : putT (k : Int) l = varP (k * 8 + 2) ++ varP m ++ l := by unfold putT; rw [if_pos hm, hll]; rfl
    rw [hp]
    have hd : decide (mayF (k : Int)) = true := decide_eq_true hm
    have h1 := hm.1
    have h2 := hm.2
    have Hk : Hid (1 ≤ k ∧ k ≤ 536870911) := ⟨by omega, by omega⟩
    have or2 := or_wire k 2 Hk.out.2 (by decide)
    rw [show ((2 : Nat) : Int) = 2 from rfl] at or2
    have Hd := Lib.hid hd
    have HL := Lib.hid hll
    clear hp hm h1 h2 hd hll
    go_enter Try.func28, Try.ntmps28
    go_wp2_with fail
    refine (may_r (k : Int) w).mono ?_
    rintro e w1 ⟨rfl, rfl⟩
    rw [Hd.out]
    have hkb : (k : Int) ≤ 536870911 := by have := Hk.out.2; omega
    go_wp2_with fail
    refine (putvar_rg base n bs (k * 8 + 2) ov _ hown hB (by have := Hk.out.2; omega) (by omega)).mono ?_
    rintro e w2 ⟨v2, rfl, ho2, hb2, hG2⟩
    have HG2 := Lib.hid hG2
    clear hG2
    have hpl : (varP (k * 8 + 2)).length ≤ 10 := (pv_length 9 (k * 8 + 2)).2
    have hl2 := hlow _ _ hb2 HG2.out
    go_wp2_with fail
    refine (putvar_rg base _ _ m v2 _ ho2 (Nat.le_trans hB hb2.size) (by omega) (by omega)).mono ?_
    rintro e w3 ⟨v3, rfl, ho3, hb3, hG3⟩
    have HG3 := Lib.hid (HG2.out.trans hG3)
    clear hG3
    have hpl2 : (varP m).length ≤ 10 := (pv_length 9 m).2
    have hl3 := hlow _ _ (hb2.trans hb3) HG3.out
    have hB3 : base ≤ w3.heap.size := Nat.le_trans hB (hb2.trans hb3).size
    generalize hN : n + (varP (k * 8 + 2)).length + (varP m).length = N at *
    have hNl : N ≤ 1000000000020 := by omega
    have HN := Lib.hid hN
    clear hN hpl hpl2
    go_wp2_with (at_builtin; refine wpList_append_sl rfl (.tmp 20) (.tmp 21) 22 rfl base 5 i0 (.int .u8 0) 1 Try.underlying22 hi hz0 hz1 hz2 rfl _ N _ rfl ho3 B m cb _ rfl hl3 ?c1 ?c2 ?c3 ?_)
    case c1 => unfold maxLen; omega
    case c2 => omega
    case c3 => exact hB3
    intro v4 w4 ho4 hb4 hg4 hv4
    have HG4 := Lib.hid (HG3.out.step hg4 hv4)
    clear hg4 hv4
    go_wp2_with fail
    go_ret
    refine ⟨_, rfl, ?_, (hb2.trans hb3).trans hb4, HG4.out⟩
    rw [← nats_append, List.append_assoc, List.append_assoc] at ho4
    rw [List.append_assoc, List.length_append, List.length_append, HL.out, show n + ((varP (k * 8 + 2)).length + ((varP m).length + m)) = N + m from by rw [← HN.out]; omega]
    exact ho4
  · have hp : putT num l = [] := by unfold putT; rw [if_neg hm]
    rw [hp, List.append_nil]
    have Hd : Hid (decide (mayF num) = false) := Lib.hid (decide_eq_false hm)
    clear hp hm
    go_enter Try.func28, Try.ntmps28
    go_wp2_with fail
    refine (may_r num w).mono ?_
    rintro e w1 ⟨rfl, rfl⟩
    rw [Hd.out]
    go_wp2_with fail
    go_ret
    exact ⟨_, rfl, hown, Below.refl _ _, Gr.refl _ _⟩
end Go.Proofs.Ytihclbiohljmlaa
