/- pb.head, PutUint, PutInt, PutBytes and the reference's own: what they answer. -/
import Derived.Test.YtihclbiohljmlaaPbMath
import Derived.Test.YtihclbiohljmlaaNumsZig
import Derived.Deep.Upon
namespace Go.Proofs.Ytihclbiohljmlaa
open Go.RowKit
set_option linter.unusedVariables false

section
variable {P : Program}
/-- append onto a slice that is full: what was there is copied, or nothing is appended. -/
theorem run_append_full (w : World) (t ty e : TypeId) (i : TypeInfo) (z : Value) (bytes : Nat) (ht : P.underlying t = some (.slice e)) (hi : P.info? e = some i) (hz : i.zero = some z)
    (hsize : i.size = 1) (hby : i.bytes = bytes) (hzs : z.cells.size = 1)
    (A : Option Addr) (n : Nat) (xs : List Value) (hs : Sl w A n n xs) (B : Option Addr) (m c : Nat) (news : List Value) (hr : Sl w B m c news)
    (h63 : n + m ≤ maxLen) (hbytes : (n + m) * bytes ≤ 140737488355328) :
    ∃ A' c' w', (Builtin.append_ #[t, t] ty #[.slice A n n, .slice B m c]).run P w = .ok (.slice A' (n + m) c') w' ∧ Sl w' A' (n + m) c' (xs ++ news) ∧ Below w.heap.size w w' := by
  by_cases hm : m = 0
  · subst hm
    have hn : news = [] := List.eq_nil_of_length_eq_zero hr.len
    subst hn
    have hsrc : _root_.Go.Src P i.size t (.slice B 0 c) 0 [] w := by
      rcases B with _ | bd
      · exact _root_.Go.Src.ofNil w ht c
      · exact _root_.Go.Src.ofSlice w ht bd 0 c [] (by simp) (by simp) (by simp)
    exact ⟨A, n, w, run_append_nothing w t t ty e i ht hi A n n (Nat.le_refl _) _ hsrc, by simpa using hs, Below.refl _ _⟩
  · rcases B with _ | bd
    · exact absurd (by have := hr.nil rfl; have := hr.le; omega) hm
    · have one : ∀ u ∈ xs ++ news, u.oneCell' = true := fun u hu => (List.mem_append.1 hu).elim (hs.one u) (hr.one u)
      rcases A with _ | ad
      · have hn0 : n = 0 := hs.nil rfl
        subst hn0
        have hx : xs = [] := List.eq_nil_of_length_eq_zero hs.len
        subst hx
        obtain ⟨v', w', hrun, r1, r2, _⟩ := run_append_own (P := P) w w.heap.size t ty e i z 1 bytes ht hi hz hsize hby hzs (by decide) (.slice none 0 0) 0 [] (World.ownsRow_nil w _ e 1) bd m c news (by rw [hr.len]; omega) (hr.cells bd rfl) hr.one h63 hbytes (Nat.le_refl _)
        obtain ⟨A', c', rfl, s'⟩ := Sl.of_own r1 one
        exact ⟨A', c', w', hrun, s', (Below.refl _ w).grown r2 (Nat.le_refl _) (fun k hk => by cases hk)⟩
      · obtain ⟨v', w', hrun, r1, r2⟩ := run_append_arg_grows (P := P) w t ty e i z 1 bytes ht hi hz hsize hby hzs (by decide) ad n n xs (by rw [hs.len]; omega) (hs.cells ad rfl) bd m c news (by rw [hr.len]; omega) (hr.cells bd rfl) (by omega) h63 hbytes
        obtain ⟨A', c', rfl, s'⟩ := Sl.of_own r1 one
        exact ⟨A', c', w', hrun, s', (Below.refl _ w).grown r2 (Nat.le_refl _) (fun k hk => by cases hk)⟩

theorem wpList_append_full {w : World} {ops : Array Oper} {rest : List Oper} {o : Oper} {a : Act} {Q : Exit → Act → World → Prop} (hgd : o.guard = none) (s x : Operand) (t : TypeId)
    (ho : o.op = .call { callee := .builtin .append, args := #[s, x], argTypes := #[t, t] })
    (e : TypeId) (i : TypeInfo) (z : Value) (bytes : Nat) (ht : P.underlying t = some (.slice e)) (hi : P.info? e = some i) (hz : i.zero = some z)
    (hsize : i.size = 1) (hby : i.bytes = bytes) (hzs : z.cells.size = 1)
    (A : Option Addr) (n : Nat) (xs : List Value) (hs : a.eval s = .slice A n n) (hsl : Sl w A n n xs)
    (B : Option Addr) (m c : Nat) (news : List Value) (hx : a.eval x = .slice B m c) (hr : Sl w B m c news)
    (h63 : n + m ≤ maxLen) (hbytes : (n + m) * bytes ≤ 140737488355328)
    (h : ∀ A' c' w', Sl w' A' (n + m) c' (xs ++ news) → Below w.heap.size w w' → wpList P ops Q rest (a.put o.dst (.slice A' (n + m) c')) w') : wpList P ops Q (o :: rest) a w :=
  wpList_plain hgd fun _ hK => by
    obtain ⟨A', c', w', hrun, h2, h3⟩ := run_append_full (P := P) w t o.type e i z bytes ht hi hz hsize hby hzs A n xs hsl B m c news hr h63 hbytes
    unfold Oper.wp execOp
    simp only [ho, resolve, invoke, builtin, Sem.run_bind, Sem.run_pure, Result.andThen_ok, List.map_toArray, List.map_cons, List.map_nil, hs, hx, hrun]
    exact hK _ _ (h A' c' w' h2 h3)
end

theorem or_wire (k wire : Nat) (hk : k ≤ 536870911) (hw : wire < 8) : bits .or .u64 ((k : Int) * 8) (wire : Int) = ((k * 8 + wire : Nat) : Int) := by
  have e : (k : Int) * 8 = ((k * 8 : Nat) : Int) := by omega
  have := Nat.two_pow_add_eq_or_of_lt (i := 3) (b := wire) (by simpa using hw) k
  rw [e, bits_or_u64 _ _ (by omega) (by omega)]
  rw [show (2 : Nat) ^ 3 = 8 from rfl] at this
  rw [Nat.mul_comm k 8, this]

/-- What head answers: the number is a field's, or not. -/
def mayF (num : Int) : Prop := 1 ≤ num ∧ num ≤ 536870911
instance (num : Int) : Decidable (mayF num) := by unfold mayF; exact inferInstance

set_option maxHeartbeats 1600000 in
set_option maxRecDepth 4000 in
theorem head_yes (A : Option Addr) (n c : Nat) (bs : List Nat) (k wire : Nat) (w : World) (hb : Sl w A n c (nats .u8 bs)) (h1 : 1 ≤ k) (h2 : k ≤ 536870911) (hw : wire < 8) (hsz : n ≤ 100000000000000) :
    Calls Try.prog 49 #[.slice A n c, .int .i64 (k : Int), .int .i64 (wire : Int)] w fun e w' => ∃ A' m, e = .returned (.tuple #[.slice A' m m, .bool true]) ∧ Sl w' A' m m (nats .u8 (bs ++ varP (k * 8 + wire))) ∧ Below w.heap.size w w' := by
  have e1 := or_wire k wire h2 hw
  go_enter Try.func49, Try.ntmps49
  go_wp2_with (go_at_call 50; refine (putvar_p A n c bs (k * 8 + wire) _ hb (by omega) hsz).mono ?_; rintro e w1 ⟨A', m, rfl, hs, hb1⟩)
  go_ret2
  exact ⟨_, _, rfl, hs, hb1⟩

set_option maxHeartbeats 1600000 in
set_option maxRecDepth 4000 in
theorem head_no (A : Option Addr) (n c : Nat) (bs : List Nat) (num : Int) (wire : Nat) (w : World) (hb : Sl w A n c (nats .u8 bs)) (hn : num < 1 ∨ 536870911 < num) (hw : wire < 8) (hsz : n ≤ 100000000000000) :
    Calls Try.prog 49 #[.slice A n c, .int .i64 num, .int .i64 (wire : Int)] w fun e w' => ∃ A' c', e = .returned (.tuple #[.slice A' n c', .bool false]) ∧ Sl w' A' n c' (nats .u8 bs) ∧ Below w.heap.size w w' := by
  rcases hn with hn | hn
  all_goals
    go_enter Try.func49, Try.ntmps49
    go_wp2_with (go_at_call 44; refine (clone_u8 _ _ _ _ _ hb (by omega)).mono ?_; rintro e w1 ⟨ov, rfl, hown, hb1⟩)
    obtain ⟨A', c', rfl, hs⟩ := Sl.of_own hown (nats_one _ _)
    go_ret2
    exact ⟨_, _, rfl, hs, hb1⟩

/-- The bytes of a number that is put: nothing where there is no such field. -/
def putU (num : Int) (v : Nat) : List Nat := if mayF num then varP (num.toNat * 8) ++ varP v else []
def putT (num : Int) (l : List Nat) : List Nat := if mayF num then varP (num.toNat * 8 + 2) ++ varP l.length ++ l else []

set_option maxHeartbeats 1600000 in
set_option maxRecDepth 4000 in
theorem putuint_p (A : Option Addr) (n c : Nat) (bs : List Nat) (num : Int) (v : Nat) (w : World) (hb : Sl w A n c (nats .u8 bs)) (hv : v < 18446744073709551616) (hsz : n ≤ 10000000000000) :
    Calls Try.prog 23 #[.slice A n c, .int .i64 num, .int .u64 (v : Int)] w fun e w' => ∃ A' m c', e = .returned (.slice A' m c') ∧ Sl w' A' m c' (nats .u8 (bs ++ putU num v)) ∧ Below w.heap.size w w' := by
  by_cases hm : mayF num
  · obtain ⟨k, rfl⟩ : ∃ k : Nat, num = (k : Int) := ⟨num.toNat, by have := hm.1; omega⟩
    have hp : putU (k : Int) v = varP (k * 8) ++ varP v := by unfold putU; rw [if_pos hm]; rfl
    rw [hp]
    have h1 := hm.1
    have h2 := hm.2
    have Hk : Hid (1 ≤ k ∧ k ≤ 536870911) := ⟨by omega, by omega⟩
    have Hv := Lib.hid hv
    clear hp hm h1 h2 hv
    go_enter Try.func23, Try.ntmps23
    go_wp2_with fail
    refine (head_yes A n c bs k 0 w hb Hk.out.1 Hk.out.2 (by decide) (by omega)).mono ?_
    rintro e w1 ⟨A', m, rfl, hs, hb1⟩
    have hml : m = bs.length + (varP (k * 8)).length := by have := hs.len; rw [nats_length, List.length_append] at this; exact this.symm
    have hpl := (pv_length 9 (k * 8)).2
    have hmle : m ≤ 100000000000000 := by have := hb.len; rw [nats_length] at this; unfold varP at hml; omega
    clear hml hpl
    go_wp2_with fail
    refine (putvar_p A' m m (bs ++ varP (k * 8)) v w1 hs Hv.out hmle).mono ?_
    rintro e w2 ⟨A2, m2, rfl, hs2, hb2⟩
    go_wp2_with fail
    go_ret
    exact ⟨_, _, _, rfl, by rw [← List.append_assoc]; exact hs2, below_trans' hb1 hb2⟩
  · have hp : putU num v = [] := by unfold putU; rw [if_neg hm]
    rw [hp, List.append_nil]
    have Hn : Hid (num < 1 ∨ 536870911 < num) := Lib.hid (by unfold mayF at hm; omega)
    clear hp hm
    go_enter Try.func23, Try.ntmps23
    go_wp2_with fail
    refine (head_no A n c bs num 0 w hb Hn.out (by decide) (by omega)).mono ?_
    rintro e w1 ⟨A', c', rfl, hs, hb1⟩
    go_wp2_with fail
    go_ret
    exact ⟨_, _, _, rfl, hs, hb1⟩

set_option maxHeartbeats 1600000 in
theorem putint_p (A : Option Addr) (n c : Nat) (bs : List Nat) (num v : Int) (w : World) (hb : Sl w A n c (nats .u8 bs)) (hv : InI v) (hsz : n ≤ 10000000000000) :
    Calls Try.prog 25 #[.slice A n c, .int .i64 num, .int .i64 v] w fun e w' => ∃ A' m c', e = .returned (.slice A' m c') ∧ Sl w' A' m c' (nats .u8 (bs ++ putU num (zigS v).toNat)) ∧ Below w.heap.size w w' := by
  have hz : zigS v = ((zigS v).toNat : Int) ∧ (zigS v).toNat < 18446744073709551616 := by
    obtain ⟨a1, a2⟩ := hv
    unfold zigS
    split <;> omega
  obtain ⟨h1, h2⟩ := hz
  have H1 := Lib.hid h1
  have H2 := Lib.hid h2
  have Hv := Lib.hid hv
  clear h1 h2 hv
  go_enter Try.func25, Try.ntmps25
  go_wp2_with fail
  refine (zig_p v w Hv.out).mono ?_
  rintro e w1 ⟨rfl, rfl⟩
  go_wp2_with fail
  rw [H1.out]
  refine (putuint_p A n c bs num _ _ hb H2.out hsz).mono ?_
  rintro e w2 ⟨A2, m2, c2, rfl, hs2, hb2⟩
  go_wp2_with fail
  go_ret
  exact ⟨_, _, _, rfl, hs2, hb2⟩

set_option maxHeartbeats 1600000 in
set_option maxRecDepth 4000 in
theorem putbytes_p (A : Option Addr) (n c : Nat) (bs : List Nat) (num : Int) (B : Option Addr) (m cb : Nat) (l : List Nat) (w : World) (hb : Sl w A n c (nats .u8 bs)) (hl : Sl w B m cb (nats .u8 l)) (hsz : n ≤ 1000000000000) (hsm : m ≤ 1000000000000) :
    Calls Try.prog 27 #[.slice A n c, .int .i64 num, .slice B m cb] w fun e w' => ∃ A' m' c', e = .returned (.slice A' m' c') ∧ Sl w' A' m' c' (nats .u8 (bs ++ putT num l)) ∧ Below w.heap.size w w' := by
  obtain ⟨i0, hi, hz0, hz1, hz2⟩ := info_parts Try.info5
  by_cases hm : mayF num
  · obtain ⟨k, rfl⟩ : ∃ k : Nat, num = (k : Int) := ⟨num.toNat, by have := hm.1; omega⟩
    have hll : l.length = m := by have := hl.len; rw [nats_length] at this; exact this
    have hp : putT (k : Int) l = varP (k * 8 + 2) ++ varP m ++ l := by unfold putT; rw [if_pos hm, hll]; rfl
    rw [hp]
    have h1 := hm.1
    have h2 := hm.2
    have Hk : Hid (1 ≤ k ∧ k ≤ 536870911) := ⟨by omega, by omega⟩
    clear hp hm h1 h2 hll
    go_enter Try.func27, Try.ntmps27
    go_wp2_with fail
    refine (head_yes A n c bs k 2 w hb Hk.out.1 Hk.out.2 (by decide) (by omega)).mono ?_
    rintro e w1 ⟨A', m1, rfl, hs, hb1⟩
    have hml : m1 = bs.length + (varP (k * 8 + 2)).length := by have := hs.len; rw [nats_length, List.length_append] at this; exact this.symm
    have hpl := (pv_length 9 (k * 8 + 2)).2
    have hmle : m1 ≤ 1000000000010 := by have := hb.len; rw [nats_length] at this; unfold varP at hml; omega
    have hl1 := hl.keep hb1
    clear hml hpl
    go_wp2_with fail
    refine (putvar_p A' m1 m1 (bs ++ varP (k * 8 + 2)) m w1 hs (by omega) (by omega)).mono ?_
    rintro e w2 ⟨A2, m2, rfl, hs2, hb2⟩
    have hml2 : m2 = m1 + (varP m).length := by have := hs2.len; have h1 := hs.len; rw [nats_length, List.length_append] at this; rw [nats_length] at h1; omega
    have hpl2 := (pv_length 9 m).2
    have hmle2 : m2 ≤ 1000000000020 := by unfold varP at hml2; omega
    have hl2 := hl1.keep hb2
    clear hml2 hpl2
    go_wp2_with (at_builtin; refine wpList_append_full rfl (.tmp 22) (.tmp 23) 22 rfl 5 i0 (.int .u8 0) 1 Try.underlying22 hi hz0 hz1 hz2 rfl A2 m2 _ rfl hs2 B m cb _ rfl hl2 ?c1 ?c2 ?_)
    case c1 => unfold maxLen; omega
    case c2 => omega
    intro A3 c3 w3 hs3 hb3
    go_wp2_with fail
    refine (clip_u8 A3 (m2 + m) c3 _ w3 hs3).mono ?_
    rintro e w4 ⟨rfl, hs4, rfl⟩
    go_wp2_with fail
    go_ret
    refine ⟨_, _, _, rfl, ?_, below_trans' (below_trans' hb1 hb2) hb3⟩
    rw [← nats_append, List.append_assoc, List.append_assoc] at hs4
    rw [List.append_assoc]
    exact hs4
  · have hp : putT num l = [] := by unfold putT; rw [if_neg hm]
    rw [hp, List.append_nil]
    have Hn : Hid (num < 1 ∨ 536870911 < num) := Lib.hid (by unfold mayF at hm; omega)
    clear hp hm
    go_enter Try.func27, Try.ntmps27
    go_wp2_with fail
    refine (head_no A n c bs num 2 w hb Hn.out (by decide) (by omega)).mono ?_
    rintro e w1 ⟨A', c', rfl, hs, hb1⟩
    go_wp2_with fail
    go_ret
    exact ⟨_, _, _, rfl, hs, hb1⟩

/-! ### The reference's own -/
set_option maxHeartbeats 1600000 in
theorem may_r (num : Int) (w : World) : Calls Try.prog 51 #[.int .i64 num] w fun e w' => e = .returned (.bool (decide (mayF num))) ∧ w' = w := by
  by_cases h1 : 1 ≤ num
  · by_cases h2 : num ≤ 536870911
    · have hm : decide (mayF num) = true := decide_eq_true ⟨h1, h2⟩
      rw [hm]
      clear hm
      go_enter Try.func51, Try.ntmps51
      go_wp2_with fail
      go_ret
      exact ⟨by first | rfl | simp, rfl⟩
    · have hm : decide (mayF num) = false := decide_eq_false (fun h => h2 h.2)
      rw [hm]
      clear hm
      go_enter Try.func51, Try.ntmps51
      go_wp2_with fail
      go_ret
      exact ⟨by first | rfl | simp, rfl⟩
  · have hm : decide (mayF num) = false := decide_eq_false (fun h => h1 h.1)
    rw [hm]
    clear hm
    go_enter Try.func51, Try.ntmps51
    go_wp2_with fail
    go_ret
    exact ⟨by first | rfl | simp, rfl⟩

set_option maxHeartbeats 1600000 in
set_option maxRecDepth 4000 in
theorem putuint_r (base n : Nat) (bs : List Nat) (num : Int) (v : Nat) (ov : Value) (w : World) (hown : w.ownsRow base 5 1 ov n (nats .u8 bs)) (hB : base ≤ w.heap.size) (hv : v < 18446744073709551616) (hsz : n ≤ 1000000000000) :
    Calls Try.prog 24 #[ov, .int .i64 num, .int .u64 (v : Int)] w fun e w' => ∃ v', e = .returned v' ∧ w'.ownsRow base 5 1 v' (n + (putU num v).length) (nats .u8 (bs ++ putU num v)) ∧ Below base w w' := by
  by_cases hm : mayF num
  · obtain ⟨k, rfl⟩ : ∃ k : Nat, num = (k : Int) := ⟨num.toNat, by have := hm.1; omega⟩
    have hp : putU (k : Int) v = varP (k * 8) ++ varP v := by unfold putU; rw [if_pos hm]; rfl
    rw [hp]
    have hd : decide (mayF (k : Int)) = true := decide_eq_true hm
    have h1 := hm.1
    have h2 := hm.2
    have Hk : Hid (1 ≤ k ∧ k ≤ 536870911) := ⟨by omega, by omega⟩
    have ek : IntKind.u64.wrap (k : Int) = (k : Int) := by rw [IntKind.wrap_u64]; omega
    have ek8 : (k : Int) * 8 = ((k * 8 : Nat) : Int) := by omega
    have Hv := Lib.hid hv
    have Hek8 := Lib.hid ek8
    have Hd := Lib.hid hd
    clear hp hm h1 h2 hv ek8 hd
    go_enter Try.func24, Try.ntmps24
    go_wp2_with fail
    refine (may_r (k : Int) w).mono ?_
    rintro e w1 ⟨rfl, rfl⟩
    rw [Hd.out]
    have hkb : (k : Int) ≤ 536870911 := by have := Hk.out.2; omega
    go_wp2_with fail
    rw [Hek8.out]
    refine (putvar_r base n bs (k * 8) ov _ hown hB (by have := Hk.out.2; omega) (by omega)).mono ?_
    rintro e w2 ⟨v2, rfl, ho2, hb2⟩
    have hpl := (pv_length 9 (k * 8)).2
    go_wp2_with fail
    refine (putvar_r base _ _ v v2 _ ho2 (Nat.le_trans hB hb2.size) Hv.out (by unfold varP; omega)).mono ?_
    rintro e w3 ⟨v3, rfl, ho3, hb3⟩
    go_wp2_with fail
    go_ret
    refine ⟨_, rfl, ?_, hb2.trans hb3⟩
    rw [List.append_assoc, Nat.add_assoc] at ho3
    rw [List.length_append]
    exact ho3
  · have hp : putU num v = [] := by unfold putU; rw [if_neg hm]
    rw [hp, List.append_nil]
    have Hd : Hid (decide (mayF num) = false) := Lib.hid (decide_eq_false hm)
    clear hp hm
    go_enter Try.func24, Try.ntmps24
    go_wp2_with fail
    refine (may_r num w).mono ?_
    rintro e w1 ⟨rfl, rfl⟩
    rw [Hd.out]
    go_wp2_with fail
    go_ret
    exact ⟨_, rfl, hown, Below.refl _ _⟩
end Go.Proofs.Ytihclbiohljmlaa
