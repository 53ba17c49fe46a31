/- flags.Pack and the reference's Pack. -/
import Derived.Test.YtcmmgehghlaofaaFlagMath
import Derived.Test.YtcmmgehghlaofaaOps5
import Derived.Test.YtcmmgehghlaofaaBits
import Derived.Test.YtcmmgehghlaofaaRowB
namespace Go.Proofs.Ytcmmgehghlaofaa
open Go.RowKit
open PackMath
set_option linter.unusedVariables false

theorem shr128 (m : Nat) (hm : m < 8) : (128 : Int) / 2 ^ m = ((2 ^ (7 - m) : Nat) : Int) := by
  match m, hm with
  | 0, _ => rfl
  | 1, _ => rfl
  | 2, _ => rfl
  | 3, _ => rfl
  | 4, _ => rfl
  | 5, _ => rfl
  | 6, _ => rfl
  | 7, _ => rfl
section
variable {P : Program} {o : Oper} {ρ : Operand → Value} {w : World} {K : Value → World → Prop}
theorem opk_quo8 {t ty : TypeId} {x y : Operand} {m : Nat} (hm : m ≤ 1000000000) (h : o.op = .binOp .quo t x y ty) (hx : ρ x = .int .i64 (m : Int)) (hy : ρ y = .int .i64 8) (hK : K (.int .i64 ((m / 8 : Nat) : Int)) w) : OpK P o ρ w K := by
  refine opk_run (v := .int .i64 ((m / 8 : Nat) : Int)) ?_ hK
  simp [execOp, h, hx, hy, go_sem]
  exact IntWalk.i64_in _ (by omega)
theorem opk_rem8 {t ty : TypeId} {x y : Operand} {m : Nat} (h : o.op = .binOp .rem t x y ty) (hx : ρ x = .int .i64 (m : Int)) (hy : ρ y = .int .i64 8) (hK : K (.int .i64 ((m % 8 : Nat) : Int)) w) : OpK P o ρ w K := by
  refine opk_run (v := .int .i64 ((m % 8 : Nat) : Int)) ?_ hK
  simp [execOp, h, hx, hy, go_sem]
  exact Int.tmod_eq_emod_of_nonneg (by omega)
theorem opk_shr128 {t ty : TypeId} {x y : Operand} {m : Nat} (hm : m < 8) (h : o.op = .binOp .shr t x y ty) (hx : ρ x = .int .u8 128) (hy : ρ y = .int .i64 (m : Int)) (hK : K (.int .u8 ((2 ^ (7 - m) : Nat) : Int)) w) : OpK P o ρ w K := by
  refine opk_run (v := .int .u8 ((2 ^ (7 - m) : Nat) : Int)) ?_ hK
  rw [← shr128 m hm]
  simp [execOp, h, hx, hy, go_sem]
theorem opk_or8 {t ty : TypeId} {x y : Operand} {a b : Nat} (ha : a < 256) (hb : b < 256) (h : o.op = .binOp .or t x y ty) (hx : ρ x = .int .u8 (a : Int)) (hy : ρ y = .int .u8 (b : Int)) (hK : K (.int .u8 ((a ||| b : Nat) : Int)) w) : OpK P o ρ w K := by
  refine opk_run (v := .int .u8 ((a ||| b : Nat) : Int)) ?_ hK
  rw [← bits_or_u8 a b ha hb]
  simp [execOp, h, hx, hy, go_sem]
end

set_option maxHeartbeats 1600000 in
set_option maxRecDepth 4000 in
theorem fpack_p (A : Option Addr) (n c : Nat) (l : List Bool) (w : World) (hs : Sl w A n c (bools l)) (hn : n ≤ 100000) :
    Calls Try.prog 28 #[.slice A n c] w fun e w' => ∃ A', e = .returned (.slice A' (nbytes n) (nbytes n)) ∧ Sl w' A' (nbytes n) (nbytes n) (nats .u8 (packS l)) ∧ Below w.heap.size w w' := by
  have hle := hs.le
  have hmax := hs.max
  unfold maxLen at hmax
  have hlen := hs.len
  rw [bools_length] at hlen
  obtain ⟨N, hN⟩ : ∃ N, N = nbytes n := ⟨_, rfl⟩
  rw [← hN]
  have hNn : N ≤ n + 1 ∧ n ≤ 8 * N := by rw [hN]; unfold nbytes; omega
  obtain ⟨hN1, hN2⟩ := hNn
  have hq : ((n : Int) + 7) / 8 = (N : Int) := by rw [hN]; unfold nbytes; omega
  obtain ⟨i0, hi, hz0, hz1, hz2⟩ := info_parts Try.info5
  have Hs := Lib.hid hs
  have Hlen := Lib.hid hlen
  have HN := Lib.hid hN
  clear hs hlen hN
  go_enter Try.func28, Try.ntmps28
  go_wp2_with (at_make; refine wpList_make_full _ rfl _ _ 22 rfl w.heap.size 5 i0 (.int .u8 0) 1 Try.underlying22 hi hz0 hz1 .i64 .i64 _ _ N rfl rfl ?b0 ?b1 ?b2 ?b3 ?b4 ?_)
  case b0 => omega
  case b1 => omega
  case b2 => rw [hz2]; omega
  case b3 => unfold maxLen; omega
  case b4 => exact Nat.le_refl _
  intro w1 hown hgrow
  rw [toList_madeCells_one, show (Value.int .u8 0) = Value.int .u8 ((0 : Nat) : Int) from rfl, show List.replicate N (Value.int .u8 ((0 : Nat) : Int)) = nats .u8 (List.replicate N 0) from by simp [nats]] at hown
  have hbel : Below w.heap.size w w1 := (Below.refl _ _).grown hgrow (Nat.le_refl _) (fun k hk => by cases hk)
  rw [← bytesOf_zero, ← upTo_zero (bitL l)] at hown
  have Hown := Lib.hid hown
  clear hown hgrow
  go_wp2_with fail
  go_loopw [13] (fun iv wr => ∃ i : Nat, i ≤ n ∧ iv = .int .i64 (i : Int) ∧ Hid (wr.ownsRow w.heap.size 5 1 (.slice (some ⟨w.heap.size, 0, none⟩) N N) N (nats .u8 (bytesOf (upTo (bitL l) i) N))) ∧ Below w.heap.size w wr) (fun iv _ => n - (intOf iv).toNat)
  case atStart => exact ⟨0, Nat.zero_le _, rfl, Hown.out, hbel⟩
  case round =>
    obtain ⟨i, hi', rfl, Hown, hb⟩ := hrel
    by_cases hlt : i < n
    · obtain ⟨b, off, rfl, hbw, hcell⟩ := Hs.out.at_ (by omega)
      have hcb := (hb.cell (p := ⟨b, off + i, none⟩) hbw).trans ((hcell i hlt).trans (congrArg some (bools_getD l i (by have := Hlen.out; omega))))
      have hstep := bytesOf_step (bitL l) i N (by omega)
      have hbl : bitL l i = l.getD i false := rfl
      rw [hbl] at hstep
      clear hcell hbl
      cases hv : l.getD i false with
      | true =>
        rw [hv] at hcb hstep
        have hiN : i / 8 < N := by omega
        obtain ⟨y, hy⟩ : ∃ y, y = (bytesOf (upTo (bitL l) i) N).getD (i / 8) 0 := ⟨_, rfl⟩
        have hy8 : y < 256 := by rw [hy, bytesOf_getD _ _ _ hiN]; exact numOf_lt 8 _
        have hp8 : 2 ^ (7 - i % 8) < 256 := Nat.lt_of_lt_of_le (Nat.pow_lt_pow_right (by decide) (show 7 - i % 8 < 8 from by omega)) (by decide)
        have hcy : wr.cell? ⟨w.heap.size, i / 8, none⟩ = some (.int .u8 (y : Int)) := by
          have h1 := Hown.out.cellAt (i / 8) (by omega)
          rw [nats, List.getElem?_map] at h1
          rw [show (bytesOf (upTo (bitL l) i) N)[i / 8]? = some y from by rw [hy, List.getElem?_eq_getElem (by rw [bytesOf_length]; exact hiN), getD_eq _ _ (by rw [bytesOf_length]; exact hiN)]] at h1
          exact h1
        have Hcy := Lib.hid hcy
        have hgl : w.heap.size < wr.heap.size := World.block_lt_of_cell? wr _ hcy
        rw [← hy, show true.toNat = 1 from rfl, Nat.one_mul] at hstep
        have Hstep := Lib.hid hstep
        clear hstep hv hy hcy
        go_wp2_with fail
        refine region_put _ [Fact.is (.slice (some ⟨w.heap.size, 0, none⟩) N N), Fact.is (.int .i64 (i : Int)), Fact.is (.int .i64 ((i / 8 : Nat) : Int)), Fact.is (.pointer (some ⟨w.heap.size, i / 8, none⟩)), Fact.is (.int .u8 (y : Int)), Fact.is (.int .i64 (i : Int)), Fact.is (.int .i64 ((i % 8 : Nat) : Int)), Fact.is (.int .u8 ((2 ^ (7 - i % 8) : Nat) : Int)), Fact.is (.int .u8 ((y ||| 2 ^ (7 - i % 8) : Nat) : Int)), Fact.is (.pointer (some ⟨w.heap.size, i / 8, none⟩)), Fact.any] [[(3, none)], [(4, none)], [(20, some 1)], [(19, some 0), (21, some 2)], [(22, some 3)], [(4, none)], [(24, some 5)], [(25, some 6)], [(23, some 4), (26, some 7)], [(19, some 0), (21, some 2)], [(28, some 9), (27, some 8)]] [true, true, true, true, true, true, true, true, true, true, true] [.pre, .pre, .pre, .pre, .pre, .pre, .pre, .pre, .pre, .pre, .put] [true, true, true, true, true, true, true, true, true, true, true] 10 999 (fun w5 => w5.ownsRow w.heap.size 5 1 (.slice (some ⟨w.heap.size, 0, none⟩) N N) N (nats .u8 ((bytesOf (upTo (bitL l) i) N).set (i / 8) (y ||| 2 ^ (7 - i % 8)))) ∧ Below w.heap.size w w5) (fun _ => True) (by kernel_rfl) (by kernel_rfl) (by kernel_rfl) ⟨fun _ => Fact.free_is _, fun _ => Fact.free_is _, fun _ => Fact.free_is _, fun _ => Fact.free_is _, fun _ => Fact.free_is _, fun _ => Fact.free_is _, fun _ => Fact.free_is _, fun _ => Fact.free_is _, fun _ => Fact.free_is _, fun _ => Fact.free_is _, fun _ => Fact.free_any, trivial⟩ ⟨⟨?_, ?_⟩, ⟨?_, ?_⟩, ⟨?_, ?_⟩, ⟨?_, ?_⟩, ⟨?_, ?_⟩, ⟨?_, ?_⟩, ⟨?_, ?_⟩, ⟨?_, ?_⟩, ⟨?_, ?_⟩, ⟨?_, ?_⟩, ⟨?_, ?_⟩, trivial⟩ ?_
        · intro ρ w' hc hB h3
          refine chain_run rfl ?_
          exact opk_move rfl ⟨Below.refl _ _, h3⟩
        · exact rfl
        · intro ρ w' hc hB h4
          refine chain_run rfl ?_
          exact opk_move rfl ⟨Below.refl _ _, h4⟩
        · exact rfl
        · intro ρ w' hc hB h20
          refine chain_run rfl ?_
          exact opk_quo8 (by omega) rfl h20 (hc.1 _) ⟨Below.refl _ _, rfl⟩
        · exact rfl
        · intro ρ w' hc hB h19 h21
          refine chain_run rfl ?_
          exact opk_indexAddr rfl h19 h21 hiN ⟨Below.refl _ _, congrArg (fun a => Value.pointer (some a)) (by rw [add_none, Nat.zero_add])⟩
        · exact rfl
        · intro ρ w' hc hB h22
          refine chain_run rfl ?_
          exact opk_load_u8 rfl h22 ((hB.cell (p := ⟨w.heap.size, i / 8, none⟩) hgl).trans Hcy.out) ⟨Below.refl _ _, rfl⟩
        · exact rfl
        · intro ρ w' hc hB h4
          refine chain_run rfl ?_
          exact opk_move rfl ⟨Below.refl _ _, h4⟩
        · exact rfl
        · intro ρ w' hc hB h24
          refine chain_run rfl ?_
          exact opk_rem8 rfl h24 (hc.1 _) ⟨Below.refl _ _, rfl⟩
        · exact rfl
        · intro ρ w' hc hB h25
          refine chain_run rfl ?_
          exact opk_shr128 (m := i % 8) (Nat.mod_lt _ (by decide)) rfl (hc.1 _) h25 ⟨Below.refl _ _, rfl⟩
        · exact rfl
        · intro ρ w' hc hB h23 h26
          refine chain_run rfl ?_
          exact opk_or8 hy8 hp8 rfl h23 h26 ⟨Below.refl _ _, rfl⟩
        · exact rfl
        · intro ρ w' hc hB h19 h21
          refine chain_run rfl ?_
          exact opk_indexAddr rfl h19 h21 hiN ⟨Below.refl _ _, congrArg (fun a => Value.pointer (some a)) (by rw [add_none, Nat.zero_add])⟩
        · exact rfl
        · intro ρ w' hc hB h28 h27
          refine chain_run rfl ?_
          have ho := World.ownsRow.below Hown.out hB
          have h28' : ρ (.tmp 28) = .pointer (some ⟨w.heap.size, i / 8, none⟩) := h28
          have h27' : ρ (.tmp 27) = .int .u8 ((y ||| 2 ^ (7 - i % 8) : Nat) : Int) := h27
          have hcw : w'.cell? ⟨w.heap.size, i / 8, none⟩ = some (.int .u8 (y : Int)) := (hB.cell (p := ⟨w.heap.size, i / 8, none⟩) hgl).trans Hcy.out
          have hfw : w'.frozen? ⟨w.heap.size, i / 8, none⟩ = false := ho.frozenAt _
          refine opk_skip (w' := w'.setCell ⟨w.heap.size, i / 8, none⟩ (.int .u8 ((y ||| 2 ^ (7 - i % 8) : Nat) : Int))) (by simp only [execOp, h28', h27']; simp [hcw, hfw, go_sem]) ⟨⟨?_, ?_⟩, trivial⟩
          · have h1 := (ho.stored (i / 8) (.int .u8 ((y ||| 2 ^ (7 - i % 8) : Nat) : Int))).1
            rw [nats_set] at h1
            exact h1
          · exact (hb.trans (hB.mono hb.size)).setCell (p := ⟨w.heap.size, i / 8, none⟩) (Nat.le_refl _) _
        · exact rfl
        intro a' w5 hP hsz hd hF hU
        obtain ⟨ho5, hb5⟩ : w5.ownsRow w.heap.size 5 1 (.slice (some ⟨w.heap.size, 0, none⟩) N N) N (nats .u8 ((bytesOf (upTo (bitL l) i) N).set (i / 8) (y ||| 2 ^ (7 - i % 8)))) ∧ Below w.heap.size w w5 := hP
        rw [← Hstep.out] at ho5
        have Ho5 := Lib.hid ho5
        obtain ⟨fr, hfr, hlit⟩ := act_lit a' _ _ [19, 20, 21, 22, 23, 24, 25, 26, 27, 28] hsz hd (fun t ht => hU t (by
          intro i o ho hod
          have := List.mem_filterMap.2 ⟨o, List.mem_of_getElem? ho, hod⟩
          revert this
          exact fun h => ht (by simpa using h)))
        rw [hlit]
        clear hF hU hlit hfr hsz hd ho5
        go_wp2_with fail
        exact ⟨⟨i + 1, by omega, by go_num, Ho5.out, hb5⟩, by simp only [intOf]; omega⟩
      | false =>
        rw [hv] at hcb hstep
        have Ho5 : Hid (wr.ownsRow w.heap.size 5 1 (.slice (some ⟨w.heap.size, 0, none⟩) N N) N (nats .u8 (bytesOf (upTo (bitL l) (i + 1)) N))) := by
          have e : bytesOf (upTo (bitL l) (i + 1)) N = bytesOf (upTo (bitL l) i) N := by
            rw [hstep, show false.toNat = 0 from rfl, Nat.zero_mul, Nat.or_zero]
            refine List.ext_getElem (by simp) fun j h1 h2 => ?_
            rw [List.getElem_set]
            split
            · rename_i hj; subst hj; rw [getD_eq _ _ h2]
            · rfl
          rw [e]
          exact Hown.out
        clear hstep hv
        go_wp2_with fail
        exact ⟨⟨i + 1, by omega, by go_num, Ho5.out, hb⟩, by simp only [intOf]; omega⟩
    · obtain rfl : i = n := by omega
      have hs3 := Sl.of_own_at Hown.out (nats_one _ _)
      rw [← Hlen.out, upTo_bitL] at hs3
      have Hs3 := Lib.hid hs3
      clear hs3
      go_wp2_with fail
      go_ret
      refine ⟨_, rfl, ?_, hb⟩
      have h1 := Hs3.out
      unfold packS
      rw [Hlen.out, ← HN.out]
      exact h1
end Go.Proofs.Ytcmmgehghlaofaa
