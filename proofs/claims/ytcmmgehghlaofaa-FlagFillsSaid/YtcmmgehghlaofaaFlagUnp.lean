/- flags.Unpack. -/
import Derived.Test.YtcmmgehghlaofaaFlagPack
import Derived.Deep.DeepCutAuto
namespace Go.Proofs.Ytcmmgehghlaofaa
open Go.RowKit
open PackMath
set_option linter.unusedVariables false

theorem Try.info4 : (Try.prog.info? 4).map (fun i => (i.zero, i.size, i.bytes)) = some (some (.bool false), 1, 1) := by kernel_rfl

theorem bools_set (l : List Bool) (i : Nat) (b : Bool) : (bools l).set i (.bool b) = bools (l.set i b) := by simp [bools, List.map_set]
theorem and_pow_ne (y m : Nat) : (((y &&& 2 ^ m : Nat) : Int) != 0) = y.testBit m := by
  cases h : y.testBit m with
  | false =>
    have e : y &&& 2 ^ m = 0 := by
      refine Nat.eq_of_testBit_eq fun i => ?_
      rw [Nat.testBit_and, Nat.testBit_two_pow, Nat.zero_testBit]
      by_cases hi : m = i
      · subst hi; rw [h]; rfl
      · rw [decide_eq_false hi, Bool.and_false]
    rw [e]; rfl
  | true =>
    have e : y &&& 2 ^ m ≠ 0 := fun h0 => by
      have h1 : (y &&& 2 ^ m).testBit m = true := by rw [Nat.testBit_and, Nat.testBit_two_pow_self, h]; rfl
      rw [h0, Nat.zero_testBit] at h1
      cases h1
    rw [bne_iff_ne]; omega
section
variable {P : Program} {o : Oper} {ρ : Operand → Value} {w : World} {K : Value → World → Prop}
theorem opk_and8 {t ty : TypeId} {x y : Operand} {a b : Nat} (ha : a < 256) (hb : b < 256) (h : o.op = .binOp .and t x y ty) (hx : ρ x = .int .u8 (a : Int)) (hy : ρ y = .int .u8 (b : Int)) (hK : K (.int .u8 ((a &&& b : Nat) : Int)) w) : OpK P o ρ w K := by
  refine opk_run (v := .int .u8 ((a &&& b : Nat) : Int)) ?_ hK
  rw [← bits_and_u8 a b ha hb]
  simp [execOp, h, hx, hy, go_sem]
end
theorem opk_indexAddrB {o : Oper} {ρ : Operand → Value} {w : World} {K : Value → World → Prop} {x y : Operand} {ad : Addr} {n c i : Nat} (h : o.op = .indexAddr 40 x y) (hx : ρ x = .slice (some ad) n c) (hy : ρ y = .int .i64 (i : Int)) (hi : i < n) (hK : K (.pointer (some (ad.add i))) w) : OpK Try.prog o ρ w K :=
  opk_run (by simp [execOp, h, hx, hy, hi, go_sem]) hK
theorem unp_step (bs : List Nat) (k i : Nat) (hi : i < k) : (unpS bs i ++ List.replicate (k - i) false).set i ((bs.getD (i / 8) 0).testBit (7 - i % 8)) = unpS bs (i + 1) ++ List.replicate (k - (i + 1)) false := by
  rw [List.set_append_right _ _ (by simp [unpS_length]), unpS_length, Nat.sub_self, show k - i = k - (i + 1) + 1 from by omega, List.replicate_succ, List.set_cons_zero, unpS_succ, List.append_assoc]
  rfl

set_option maxHeartbeats 1600000 in
set_option maxRecDepth 4000 in
/-- Behind the tests: the bits. (r: how many bits the last byte has, 0: all.) -/
theorem unp_ok (A : Option Addr) (n c : Nat) (bs : List Nat) (k : Nat) (w : World) (hs : Sl w A n c (nats .u8 bs)) (hb8 : ∀ x ∈ bs, x < 256) (hk : k ≤ 16384) (hn : n = nbytes k) (hfill : 0 < k % 8 → bs.getD (n - 1) 0 * 2 ^ (k % 8) % 256 = 0) :
    Calls Try.prog 29 #[.slice A n c, .int .i64 (k : Int)] w fun e w' => ∃ A', e = .returned (.tuple #[.slice A' k k, .int .i64 0]) ∧ Sl w' A' k k (bools (unpS bs k)) ∧ Below w.heap.size w w' := by
  have hle := hs.le
  have hmax := hs.max
  unfold maxLen at hmax
  have hlen := hs.len
  rw [nats_length] at hlen
  have hn' : n ≤ 3000 ∧ k ≤ 8 * n := by rw [hn]; unfold nbytes; omega
  obtain ⟨hn1, hn2⟩ := hn'
  have hq : ((k : Int) + 7) / 8 = (n : Int) := by rw [hn]; unfold nbytes; omega
  obtain ⟨i0, hi, hz0, hz1, hz2⟩ := info_parts Try.info4
  have Hs := Lib.hid hs
  have Hlen := Lib.hid hlen
  have Hn := Lib.hid hn
  have Hb8 := Lib.hid hb8
  obtain ⟨r, hr⟩ : ∃ r, r = k % 8 := ⟨_, rfl⟩
  have hr8 : (k : Int) % 8 = (r : Int) := by omega
  have Hr := Lib.hid hr
  by_cases hk0 : k = 0
  · subst hk0
    have hn0 : n = 0 := by rw [hn]; rfl
    subst hn0
    clear hs hlen hn hb8 hfill hr hr8 Hs Hlen Hn Hb8
    go_enter Try.func29, Try.ntmps29
    go_wp2_with (at_make; refine wpList_make_full _ rfl _ _ 40 rfl w.heap.size 4 i0 (.bool false) 1 Try.underlying40 hi hz0 hz1 .i64 .i64 _ _ 0 rfl rfl rfl rfl ?b2 ?b3 (Nat.le_refl _) ?_)
    case b2 => first | (rw [hz2]; omega) | omega
    case b3 => unfold maxLen; omega
    intro w1 hown hgrow
    rw [toList_madeCells_one, show List.replicate 0 (Value.bool false) = bools (unpS bs 0 ++ List.replicate (0 - 0) false) from by simp [bools, unpS]] at hown
    have hbel : Below w.heap.size w w1 := (Below.refl _ _).grown hgrow (Nat.le_refl _) (fun k hk => by cases hk)
    have Hown := Lib.hid hown
    clear hown hgrow
    go_wp2_with fail
    go_loopw [47] (fun iv wr => iv = .int .i64 0 ∧ Hid (wr.ownsRow w.heap.size 4 1 (.slice (some ⟨w.heap.size, 0, none⟩) 0 0) 0 (bools [])) ∧ Below w.heap.size w wr) (fun iv _ => 0)
    case atStart => exact ⟨rfl, Hown.out, hbel⟩
    case round =>
      obtain ⟨rfl, Hown, hb⟩ := hrel
      have hs3 := Sl.of_own_at Hown.out (bools_one _)
      have Hs3 := Lib.hid hs3
      clear hs3
      go_wp2_with fail
      go_ret2
      exact ⟨_, rfl, Hs3.out, hb⟩
  · obtain ⟨b, off, rfl, hbw, hcell⟩ := hs.at_ (by omega)
    have Hcell := Lib.hid hcell
    have hlast : ∃ K : Nat, n = K + 1 := ⟨n - 1, by omega⟩
    obtain ⟨K, hK⟩ := hlast
    have hKI : (n : Int) - 1 = (K : Int) := by omega
    by_cases h0 : 0 < r
    · have h0' : (0 : Int) < (r : Int) := by omega
      obtain ⟨y, hy⟩ : ∃ y, y = bs.getD K 0 := ⟨_, rfl⟩
      have hcy : w.cell? ⟨b, off + K, none⟩ = some (.int .u8 (y : Int)) := by rw [hcell _ (by omega), nats_getD _ _ _ (by omega), hy]
      have hy8 : y < 256 := by rw [hy, getD_eq _ _ (by omega)]; exact hb8 _ (List.getElem_mem _)
      have hne : ((y : Int) * 2 ^ r % 256 != 0) = false := by
        have := hfill (by omega)
        rw [← hr, show n - 1 = K from by omega, ← hy] at this
        have e : ((y : Nat) : Int) * 2 ^ r % 256 = ((y * 2 ^ r % 256 : Nat) : Int) := by simp
        rw [e, this]
        rfl
      have hKn : K < n := by omega
      clear hs hlen hn hb8 hfill hr hcell hy hK
      go_enter Try.func29, Try.ntmps29
      go_wp2_with (at_make; refine wpList_make_full _ rfl _ _ 40 rfl w.heap.size 4 i0 (.bool false) 1 Try.underlying40 hi hz0 hz1 .i64 .i64 _ _ k rfl rfl rfl rfl ?b2 ?b3 (Nat.le_refl _) ?_)
      case b2 => first | (rw [hz2]; omega) | omega
      case b3 => unfold maxLen; omega
      intro w1 hown hgrow
      rw [toList_madeCells_one, show List.replicate k (Value.bool false) = bools (unpS bs 0 ++ List.replicate (k - 0) false) from by simp [bools, unpS]] at hown
      have hbel : Below w.heap.size w w1 := (Below.refl _ _).grown hgrow (Nat.le_refl _) (fun k hk => by cases hk)
      have Hown := Lib.hid hown
      clear hown hgrow
      go_wp2_with fail
      go_loopw [47] (fun iv wr => ∃ i : Nat, i ≤ k ∧ iv = .int .i64 (i : Int) ∧ Hid (wr.ownsRow w.heap.size 4 1 (.slice (some ⟨w.heap.size, 0, none⟩) k k) k (bools (unpS bs i ++ List.replicate (k - i) false))) ∧ Below w.heap.size w wr) (fun iv _ => k - (intOf iv).toNat)
      case atStart => exact ⟨0, Nat.zero_le _, rfl, Hown.out, hbel⟩
      case round =>
        obtain ⟨i, hi', rfl, Hown, hb⟩ := hrel
        by_cases hlt : i < k
        · have hiN : i / 8 < n := by omega
          obtain ⟨y, hy⟩ : ∃ y, y = bs.getD (i / 8) 0 := ⟨_, rfl⟩
          have hy8 : y < 256 := by rw [hy, getD_eq _ _ (by have := Hlen.out; omega)]; exact Hb8.out _ (List.getElem_mem _)
          have hp8 : 2 ^ (7 - i % 8) < 256 := Nat.lt_of_lt_of_le (Nat.pow_lt_pow_right (by decide) (show 7 - i % 8 < 8 from by omega)) (by decide)
          have hcy : wr.cell? ⟨b, off + i / 8, none⟩ = some (.int .u8 (y : Int)) := by
            rw [hb.cell (p := ⟨b, off + i / 8, none⟩) hbw, Hcell.out _ hiN, nats_getD _ _ _ (by have := Hlen.out; omega), hy]
          have Hcy := Lib.hid hcy
          have hstep := unp_step bs k i hlt
          rw [← hy] at hstep
          have Hstep := Lib.hid hstep
          clear hstep hy hcy
          go_wp2_with fail
          refine region_put _ [Fact.is (.slice (some ⟨w.heap.size, 0, none⟩) k k), Fact.is (.int .i64 (i : Int)), Fact.is (.slice (some ⟨b, off, none⟩) n c), Fact.is (.int .i64 (i : Int)), Fact.is (.int .i64 ((i / 8 : Nat) : Int)), Fact.is (.pointer (some ⟨b, off + i / 8, none⟩)), Fact.is (.int .u8 (y : Int)), Fact.is (.int .i64 (i : Int)), Fact.is (.int .i64 ((i % 8 : Nat) : Int)), Fact.is (.int .u8 ((2 ^ (7 - i % 8) : Nat) : Int)), Fact.is (.int .u8 ((y &&& 2 ^ (7 - i % 8) : Nat) : Int)), Fact.is (.bool (y.testBit (7 - i % 8))), Fact.is (.pointer (some ⟨w.heap.size, i, none⟩)), Fact.any] [[(7, none)], [(8, none)], [(0, none)], [(8, none)], [(53, some 3)], [(52, some 2), (54, some 4)], [(55, some 5)], [(8, none)], [(57, some 7)], [(58, some 8)], [(56, some 6), (59, some 9)], [(60, some 10)], [(50, some 0), (51, some 1)], [(62, some 12), (61, some 11)]] [true, true, true, true, true, true, true, true, true, true, true, true, true, true] [.pre, .pre, .pre, .pre, .pre, .pre, .pre, .pre, .pre, .pre, .pre, .pre, .pre, .put] [true, true, true, true, true, true, true, true, true, true, true, true, true, true] 13 999 (fun w5 => w5.ownsRow w.heap.size 4 1 (.slice (some ⟨w.heap.size, 0, none⟩) k k) k (bools ((unpS bs i ++ List.replicate (k - i) false).set i (y.testBit (7 - i % 8)))) ∧ Below w.heap.size w w5) (fun _ => True) (by kernel_rfl) (by kernel_rfl) (by kernel_rfl) ⟨fun _ => Fact.free_is _, fun _ => Fact.free_is _, fun _ => Fact.free_is _, fun _ => Fact.free_is _, fun _ => Fact.free_is _, fun _ => Fact.free_is _, fun _ => Fact.free_is _, fun _ => Fact.free_is _, fun _ => Fact.free_is _, fun _ => Fact.free_is _, fun _ => Fact.free_is _, fun _ => Fact.free_is _, fun _ => Fact.free_is _, fun _ => Fact.free_any, trivial⟩ ⟨⟨?_, ?_⟩, ⟨?_, ?_⟩, ⟨?_, ?_⟩, ⟨?_, ?_⟩, ⟨?_, ?_⟩, ⟨?_, ?_⟩, ⟨?_, ?_⟩, ⟨?_, ?_⟩, ⟨?_, ?_⟩, ⟨?_, ?_⟩, ⟨?_, ?_⟩, ⟨?_, ?_⟩, ⟨?_, ?_⟩, ⟨?_, ?_⟩, trivial⟩ ?_
          · intro ρ w' hc hB h7
            refine chain_run rfl ?_
            exact opk_move rfl ⟨Below.refl _ _, h7⟩
          · exact rfl
          · intro ρ w' hc hB h8
            refine chain_run rfl ?_
            exact opk_move rfl ⟨Below.refl _ _, h8⟩
          · exact rfl
          · intro ρ w' hc hB h0
            refine chain_run rfl ?_
            exact opk_move rfl ⟨Below.refl _ _, h0⟩
          · exact rfl
          · intro ρ w' hc hB h8
            refine chain_run rfl ?_
            exact opk_move rfl ⟨Below.refl _ _, h8⟩
          · exact rfl
          · intro ρ w' hc hB h53
            refine chain_run rfl ?_
            exact opk_quo8 (by omega) rfl h53 (hc.1 _) ⟨Below.refl _ _, rfl⟩
          · exact rfl
          · intro ρ w' hc hB h52 h54
            refine chain_run rfl ?_
            exact opk_indexAddr rfl h52 h54 hiN ⟨Below.refl _ _, congrArg (fun a => Value.pointer (some a)) (add_none _ _ _)⟩
          · exact rfl
          · intro ρ w' hc hB h55
            refine chain_run rfl ?_
            exact opk_load_u8 rfl h55 ((hB.cell (p := ⟨b, off + i / 8, none⟩) (Nat.lt_of_lt_of_le hbw hb.size)).trans Hcy.out) ⟨Below.refl _ _, rfl⟩
          · exact rfl
          · intro ρ w' hc hB h8
            refine chain_run rfl ?_
            exact opk_move rfl ⟨Below.refl _ _, h8⟩
          · exact rfl
          · intro ρ w' hc hB h57
            refine chain_run rfl ?_
            exact opk_rem8 rfl h57 (hc.1 _) ⟨Below.refl _ _, rfl⟩
          · exact rfl
          · intro ρ w' hc hB h58
            refine chain_run rfl ?_
            exact opk_shr128 (m := i % 8) (Nat.mod_lt _ (by decide)) rfl (hc.1 _) h58 ⟨Below.refl _ _, rfl⟩
          · exact rfl
          · intro ρ w' hc hB h56 h59
            refine chain_run rfl ?_
            exact opk_and8 hy8 hp8 rfl h56 h59 ⟨Below.refl _ _, rfl⟩
          · exact rfl
          · intro ρ w' hc hB h60
            refine chain_run rfl ?_
            exact opk_neq_int rfl h60 (hc.1 _) ⟨Below.refl _ _, congrArg Value.bool (and_pow_ne y (7 - i % 8))⟩
          · exact rfl
          · intro ρ w' hc hB h50 h51
            refine chain_run rfl ?_
            exact opk_indexAddrB rfl h50 h51 hlt ⟨Below.refl _ _, congrArg (fun a => Value.pointer (some a)) (by rw [add_none, Nat.zero_add])⟩
          · exact rfl
          · intro ρ w' hc hB h62 h61
            refine chain_run rfl ?_
            have ho := World.ownsRow.below Hown.out hB
            have h62' : ρ (.tmp 62) = .pointer (some ⟨w.heap.size, i, none⟩) := h62
            have h61' : ρ (.tmp 61) = .bool (y.testBit (7 - i % 8)) := h61
            obtain ⟨u, hcw⟩ : ∃ u, w'.cell? ⟨w.heap.size, i, none⟩ = some u := by
              have h1 := ho.cellAt i (by omega)
              rw [List.getElem?_eq_getElem (by rw [bools_length, List.length_append, unpS_length, List.length_replicate]; omega)] at h1
              exact ⟨_, h1⟩
            have hfw : w'.frozen? ⟨w.heap.size, i, none⟩ = false := ho.frozenAt _
            refine opk_skip (w' := w'.setCell ⟨w.heap.size, i, none⟩ (.bool (y.testBit (7 - i % 8)))) (by simp only [execOp, h62', h61']; simp [hcw, hfw, go_sem]) ⟨⟨?_, ?_⟩, trivial⟩
            · have h1 := (ho.stored i (.bool (y.testBit (7 - i % 8)))).1
              rw [bools_set] at h1
              exact h1
            · exact (hb.trans (hB.mono hb.size)).setCell (p := ⟨w.heap.size, i, none⟩) (Nat.le_refl _) _
          · exact rfl
          intro a' w5 hP hsz hd hF hU
          obtain ⟨ho5, hb5⟩ : w5.ownsRow w.heap.size 4 1 (.slice (some ⟨w.heap.size, 0, none⟩) k k) k (bools ((unpS bs i ++ List.replicate (k - i) false).set i (y.testBit (7 - i % 8)))) ∧ Below w.heap.size w w5 := hP
          rw [Hstep.out] at ho5
          have Ho5 := Lib.hid ho5
          obtain ⟨fr, hfr, hlit⟩ := act_lit a' _ _ [50, 51, 52, 53, 54, 55, 56, 57, 58, 59, 60, 61, 62] hsz hd (fun t ht => hU t (by
            intro i o ho hod
            have := List.mem_filterMap.2 ⟨o, List.mem_of_getElem? ho, hod⟩
            revert this
            exact fun h => ht (by simpa using h)))
          rw [hlit]
          clear hF hU hlit hfr hsz hd ho5
          go_wp2_with fail
          exact ⟨⟨i + 1, by omega, by go_num, Ho5.out, hb5⟩, by simp only [intOf]; omega⟩
        · obtain rfl : i = k := by omega
          have hs3 := Sl.of_own_at Hown.out (bools_one _)
          rw [Nat.sub_self, List.replicate_zero, List.append_nil] at hs3
          have Hs3 := Lib.hid hs3
          clear hs3
          go_wp2_with fail
          go_ret2
          exact ⟨_, rfl, Hs3.out, hb⟩
    · have h0' : ¬ (0 : Int) < (r : Int) := by omega
      clear hs hlen hn hb8 hfill hr hcell hK
      go_enter Try.func29, Try.ntmps29
      go_wp2_with (at_make; refine wpList_make_full _ rfl _ _ 40 rfl w.heap.size 4 i0 (.bool false) 1 Try.underlying40 hi hz0 hz1 .i64 .i64 _ _ k rfl rfl rfl rfl ?b2 ?b3 (Nat.le_refl _) ?_)
      case b2 => first | (rw [hz2]; omega) | omega
      case b3 => unfold maxLen; omega
      intro w1 hown hgrow
      rw [toList_madeCells_one, show List.replicate k (Value.bool false) = bools (unpS bs 0 ++ List.replicate (k - 0) false) from by simp [bools, unpS]] at hown
      have hbel : Below w.heap.size w w1 := (Below.refl _ _).grown hgrow (Nat.le_refl _) (fun k hk => by cases hk)
      have Hown := Lib.hid hown
      clear hown hgrow
      go_wp2_with fail
      go_loopw [47] (fun iv wr => ∃ i : Nat, i ≤ k ∧ iv = .int .i64 (i : Int) ∧ Hid (wr.ownsRow w.heap.size 4 1 (.slice (some ⟨w.heap.size, 0, none⟩) k k) k (bools (unpS bs i ++ List.replicate (k - i) false))) ∧ Below w.heap.size w wr) (fun iv _ => k - (intOf iv).toNat)
      case atStart => exact ⟨0, Nat.zero_le _, rfl, Hown.out, hbel⟩
      case round =>
        obtain ⟨i, hi', rfl, Hown, hb⟩ := hrel
        by_cases hlt : i < k
        · have hiN : i / 8 < n := by omega
          obtain ⟨y, hy⟩ : ∃ y, y = bs.getD (i / 8) 0 := ⟨_, rfl⟩
          have hy8 : y < 256 := by rw [hy, getD_eq _ _ (by have := Hlen.out; omega)]; exact Hb8.out _ (List.getElem_mem _)
          have hp8 : 2 ^ (7 - i % 8) < 256 := Nat.lt_of_lt_of_le (Nat.pow_lt_pow_right (by decide) (show 7 - i % 8 < 8 from by omega)) (by decide)
          have hcy : wr.cell? ⟨b, off + i / 8, none⟩ = some (.int .u8 (y : Int)) := by
            rw [hb.cell (p := ⟨b, off + i / 8, none⟩) hbw, Hcell.out _ hiN, nats_getD _ _ _ (by have := Hlen.out; omega), hy]
          have Hcy := Lib.hid hcy
          have hstep := unp_step bs k i hlt
          rw [← hy] at hstep
          have Hstep := Lib.hid hstep
          clear hstep hy hcy
          go_wp2_with fail
          refine region_put _ [Fact.is (.slice (some ⟨w.heap.size, 0, none⟩) k k), Fact.is (.int .i64 (i : Int)), Fact.is (.slice (some ⟨b, off, none⟩) n c), Fact.is (.int .i64 (i : Int)), Fact.is (.int .i64 ((i / 8 : Nat) : Int)), Fact.is (.pointer (some ⟨b, off + i / 8, none⟩)), Fact.is (.int .u8 (y : Int)), Fact.is (.int .i64 (i : Int)), Fact.is (.int .i64 ((i % 8 : Nat) : Int)), Fact.is (.int .u8 ((2 ^ (7 - i % 8) : Nat) : Int)), Fact.is (.int .u8 ((y &&& 2 ^ (7 - i % 8) : Nat) : Int)), Fact.is (.bool (y.testBit (7 - i % 8))), Fact.is (.pointer (some ⟨w.heap.size, i, none⟩)), Fact.any] [[(7, none)], [(8, none)], [(0, none)], [(8, none)], [(53, some 3)], [(52, some 2), (54, some 4)], [(55, some 5)], [(8, none)], [(57, some 7)], [(58, some 8)], [(56, some 6), (59, some 9)], [(60, some 10)], [(50, some 0), (51, some 1)], [(62, some 12), (61, some 11)]] [true, true, true, true, true, true, true, true, true, true, true, true, true, true] [.pre, .pre, .pre, .pre, .pre, .pre, .pre, .pre, .pre, .pre, .pre, .pre, .pre, .put] [true, true, true, true, true, true, true, true, true, true, true, true, true, true] 13 999 (fun w5 => w5.ownsRow w.heap.size 4 1 (.slice (some ⟨w.heap.size, 0, none⟩) k k) k (bools ((unpS bs i ++ List.replicate (k - i) false).set i (y.testBit (7 - i % 8)))) ∧ Below w.heap.size w w5) (fun _ => True) (by kernel_rfl) (by kernel_rfl) (by kernel_rfl) ⟨fun _ => Fact.free_is _, fun _ => Fact.free_is _, fun _ => Fact.free_is _, fun _ => Fact.free_is _, fun _ => Fact.free_is _, fun _ => Fact.free_is _, fun _ => Fact.free_is _, fun _ => Fact.free_is _, fun _ => Fact.free_is _, fun _ => Fact.free_is _, fun _ => Fact.free_is _, fun _ => Fact.free_is _, fun _ => Fact.free_is _, fun _ => Fact.free_any, trivial⟩ ⟨⟨?_, ?_⟩, ⟨?_, ?_⟩, ⟨?_, ?_⟩, ⟨?_, ?_⟩, ⟨?_, ?_⟩, ⟨?_, ?_⟩, ⟨?_, ?_⟩, ⟨?_, ?_⟩, ⟨?_, ?_⟩, ⟨?_, ?_⟩, ⟨?_, ?_⟩, ⟨?_, ?_⟩, ⟨?_, ?_⟩, ⟨?_, ?_⟩, trivial⟩ ?_
          · intro ρ w' hc hB h7
            refine chain_run rfl ?_
            exact opk_move rfl ⟨Below.refl _ _, h7⟩
          · exact rfl
          · intro ρ w' hc hB h8
            refine chain_run rfl ?_
            exact opk_move rfl ⟨Below.refl _ _, h8⟩
          · exact rfl
          · intro ρ w' hc hB h0
            refine chain_run rfl ?_
            exact opk_move rfl ⟨Below.refl _ _, h0⟩
          · exact rfl
          · intro ρ w' hc hB h8
            refine chain_run rfl ?_
            exact opk_move rfl ⟨Below.refl _ _, h8⟩
          · exact rfl
          · intro ρ w' hc hB h53
            refine chain_run rfl ?_
            exact opk_quo8 (by omega) rfl h53 (hc.1 _) ⟨Below.refl _ _, rfl⟩
          · exact rfl
          · intro ρ w' hc hB h52 h54
            refine chain_run rfl ?_
            exact opk_indexAddr rfl h52 h54 hiN ⟨Below.refl _ _, congrArg (fun a => Value.pointer (some a)) (add_none _ _ _)⟩
          · exact rfl
          · intro ρ w' hc hB h55
            refine chain_run rfl ?_
            exact opk_load_u8 rfl h55 ((hB.cell (p := ⟨b, off + i / 8, none⟩) (Nat.lt_of_lt_of_le hbw hb.size)).trans Hcy.out) ⟨Below.refl _ _, rfl⟩
          · exact rfl
          · intro ρ w' hc hB h8
            refine chain_run rfl ?_
            exact opk_move rfl ⟨Below.refl _ _, h8⟩
          · exact rfl
          · intro ρ w' hc hB h57
            refine chain_run rfl ?_
            exact opk_rem8 rfl h57 (hc.1 _) ⟨Below.refl _ _, rfl⟩
          · exact rfl
          · intro ρ w' hc hB h58
            refine chain_run rfl ?_
            exact opk_shr128 (m := i % 8) (Nat.mod_lt _ (by decide)) rfl (hc.1 _) h58 ⟨Below.refl _ _, rfl⟩
          · exact rfl
          · intro ρ w' hc hB h56 h59
            refine chain_run rfl ?_
            exact opk_and8 hy8 hp8 rfl h56 h59 ⟨Below.refl _ _, rfl⟩
          · exact rfl
          · intro ρ w' hc hB h60
            refine chain_run rfl ?_
            exact opk_neq_int rfl h60 (hc.1 _) ⟨Below.refl _ _, congrArg Value.bool (and_pow_ne y (7 - i % 8))⟩
          · exact rfl
          · intro ρ w' hc hB h50 h51
            refine chain_run rfl ?_
            exact opk_indexAddrB rfl h50 h51 hlt ⟨Below.refl _ _, congrArg (fun a => Value.pointer (some a)) (by rw [add_none, Nat.zero_add])⟩
          · exact rfl
          · intro ρ w' hc hB h62 h61
            refine chain_run rfl ?_
            have ho := World.ownsRow.below Hown.out hB
            have h62' : ρ (.tmp 62) = .pointer (some ⟨w.heap.size, i, none⟩) := h62
            have h61' : ρ (.tmp 61) = .bool (y.testBit (7 - i % 8)) := h61
            obtain ⟨u, hcw⟩ : ∃ u, w'.cell? ⟨w.heap.size, i, none⟩ = some u := by
              have h1 := ho.cellAt i (by omega)
              rw [List.getElem?_eq_getElem (by rw [bools_length, List.length_append, unpS_length, List.length_replicate]; omega)] at h1
              exact ⟨_, h1⟩
            have hfw : w'.frozen? ⟨w.heap.size, i, none⟩ = false := ho.frozenAt _
            refine opk_skip (w' := w'.setCell ⟨w.heap.size, i, none⟩ (.bool (y.testBit (7 - i % 8)))) (by simp only [execOp, h62', h61']; simp [hcw, hfw, go_sem]) ⟨⟨?_, ?_⟩, trivial⟩
            · have h1 := (ho.stored i (.bool (y.testBit (7 - i % 8)))).1
              rw [bools_set] at h1
              exact h1
            · exact (hb.trans (hB.mono hb.size)).setCell (p := ⟨w.heap.size, i, none⟩) (Nat.le_refl _) _
          · exact rfl
          intro a' w5 hP hsz hd hF hU
          obtain ⟨ho5, hb5⟩ : w5.ownsRow w.heap.size 4 1 (.slice (some ⟨w.heap.size, 0, none⟩) k k) k (bools ((unpS bs i ++ List.replicate (k - i) false).set i (y.testBit (7 - i % 8)))) ∧ Below w.heap.size w w5 := hP
          rw [Hstep.out] at ho5
          have Ho5 := Lib.hid ho5
          obtain ⟨fr, hfr, hlit⟩ := act_lit a' _ _ [50, 51, 52, 53, 54, 55, 56, 57, 58, 59, 60, 61, 62] hsz hd (fun t ht => hU t (by
            intro i o ho hod
            have := List.mem_filterMap.2 ⟨o, List.mem_of_getElem? ho, hod⟩
            revert this
            exact fun h => ht (by simpa using h)))
          rw [hlit]
          clear hF hU hlit hfr hsz hd ho5
          go_wp2_with fail
          exact ⟨⟨i + 1, by omega, by go_num, Ho5.out, hb5⟩, by simp only [intOf]; omega⟩
        · obtain rfl : i = k := by omega
          have hs3 := Sl.of_own_at Hown.out (bools_one _)
          rw [Nat.sub_self, List.replicate_zero, List.append_nil] at hs3
          have Hs3 := Lib.hid hs3
          clear hs3
          go_wp2_with fail
          go_ret2
          exact ⟨_, rfl, Hs3.out, hb⟩
end Go.Proofs.Ytcmmgehghlaofaa
