/- PackWhole: the walk. -/
import Derived.Test.YtepkboilfgmkkaaPackLaw2
import Derived.Test.YtepkboilfgmkkaaOps
namespace Go.Proofs.Ytepkboilfgmkkaa
open Go.RowKit
open PackMath
set_option linter.unusedVariables false

/-- Byte p of numbers of k bytes. -/
def wb (l : List Nat) (k p : Nat) : Nat := l.getD (p / k) 0 / 2 ^ (8 * (k - 1 - p % k)) % 256

theorem whole_law (l : List Nat) (k : Nat) (hk : 0 < k) : putSpec l (8 * k) = (List.range (l.length * k)).map (wb l k) := by
  have e : nbytes (l.length * (8 * k)) = l.length * k := by
    unfold nbytes
    rw [show l.length * (8 * k) = 8 * (l.length * k) from by rw [Nat.mul_left_comm]]
    omega
  unfold putSpec bytesOf
  rw [e]
  refine List.map_congr_left fun p hp => ?_
  have hp := List.mem_range.1 hp
  have hi : p / k < l.length := Nat.div_lt_of_lt_mul (by rw [Nat.mul_comm]; exact hp)
  have hr : p % k < k := Nat.mod_lt _ hk
  have hpk : p = k * (p / k) + p % k := (Nat.div_add_mod p k).symm
  generalize p / k = i at *
  generalize p % k = r at *
  unfold wb
  have := numOf_slice 8 (8 * (k - 1 - r)) (l.getD i 0) (fun t => bitOf l (8 * k) (8 * p + t)) (fun t ht => by
    have h := bit_at l (8 * k) i (8 * r + t) hi (by omega)
    rw [show i * (8 * k) + (8 * r + t) = 8 * p + t from by rw [hpk, Nat.mul_add, Nat.mul_left_comm, Nat.mul_comm i k]; omega] at h
    rw [h]
    congr 1
    omega)
  rw [this]
  subst hpk
  rw [Nat.mul_add_div hk, Nat.div_eq_of_lt hr, Nat.mul_add_mod, Nat.mod_eq_of_lt hr, Nat.add_zero]

theorem wb_step (l : List Nat) (k i m : Nat) (hm : m < k) : (List.range (i * k + (m + 1))).map (wb l k) = (List.range (i * k + m)).map (wb l k) ++ [l.getD i 0 / 2 ^ (8 * (k - 1 - m)) % 256] := by
  rw [← Nat.add_assoc, List.range_succ, List.map_append]
  congr 1
  simp only [List.map_cons, List.map_nil, wb]
  rw [Nat.mul_comm i k, Nat.mul_add_div (by omega), Nat.div_eq_of_lt hm, Nat.mul_add_mod, Nat.mod_eq_of_lt hm, Nat.add_zero]

structure Want (w : World) (l : List Nat) (k p : Nat) (v : Value) (wr : World) : Prop where
  own : wr.ownsRow w.heap.size 5 1 v p (nats .u8 ((List.range p).map (wb l k)))
  bel : Below w.heap.size w wr

set_option maxHeartbeats 3200000 in
theorem law_PackWhole (A : Option Addr) (n c : Nat) (l : List Nat) (kn : Int) (w : World) (hl : Sl w A n c (nats .u64 l)) (hb : ∀ x ∈ l, x < 18446744073709551616) (_hw : -9223372036854775808 ≤ kn ∧ kn ≤ 9223372036854775807) :
    Calls Try.prog 8 #[.slice A n c, .int .i64 kn] w fun e w' => e = .returned (.bool true) ∧ Below w.heap.size w w' := by
  have hn63 := len_one n c hl.le hl.max
  by_cases h1 : 100 < n
  · go_enter Try.func8, Try.ntmps8
    go_wp2_with fail
    refine (known2 _).mono ?_
    rintro e w1 ⟨rfl, hb1⟩
    go_wp2_with fail
    go_ret
    exact ⟨rfl, hb1⟩
  by_cases h2 : kn < 1
  · go_enter Try.func8, Try.ntmps8
    go_wp2_with fail
    refine (known2 _).mono ?_
    rintro e w1 ⟨rfl, hb1⟩
    go_wp2_with fail
    go_ret
    exact ⟨rfl, hb1⟩
  by_cases h3 : 8 < kn
  · go_enter Try.func8, Try.ntmps8
    go_wp2_with fail
    refine (known2 _).mono ?_
    rintro e w1 ⟨rfl, hb1⟩
    go_wp2_with fail
    go_ret
    exact ⟨rfl, hb1⟩
  obtain ⟨k, rfl⟩ : ∃ k : Nat, kn = (k : Int) := ⟨kn.toNat, by omega⟩
  have hlen := hl.len
  rw [nats_length] at hlen
  have Hlen := Lib.hid hlen
  clear hlen
  have Hb := Lib.hid hb
  clear hb
  obtain ⟨i0, hi, hz0, hz1, hz2⟩ := info_parts Try.info5
  go_enter Try.func8, Try.ntmps8
  go_wp2_with fail
  refine (known2 _).mono ?_
  rintro e w1 ⟨rfl, hb1⟩
  go_wp2_with fail
  go_loopw [5, 6] (fun v ix wr => ∃ i : Nat, i ≤ n ∧ ix = .int .i64 (i : Int) ∧ Want w l k (i * k) v wr) (fun _ ix _ => n - (intOf ix).toNat)
  case atStart => exact ⟨0, Nat.zero_le _, rfl, by simpa [nats] using World.ownsRow_nil _ _ _ _, hb1⟩
  case round =>
    obtain ⟨i, hi', rfl, hown, hbel⟩ := hrel
    by_cases hlt : i < n
    · obtain ⟨b, off, rfl, hbw, hcell⟩ := hl.at_ (by omega)
      have hcl := hcell i hlt
      rw [nats_getD _ _ _ (by rw [Hlen.out]; exact hlt)] at hcl
      have Hst := Lib.hid (fun m => wb_step l k i m)
      have hik : i * k ≤ 100 * 8 := Nat.mul_le_mul (by omega) (by omega)
      have hx64 : l.getD i 0 < 18446744073709551616 := by
        rw [getD_eq _ _ (by rw [Hlen.out]; exact hlt)]; exact Hb.out _ (List.getElem_mem _)
      generalize l.getD i 0 = x at *
      have hnext : i * k + k = (i + 1) * k := by rw [Nat.add_mul, Nat.one_mul]
      generalize hp : i * k = p at *
      have Hnext := Lib.hid hnext
      clear hnext hcell hp
      go_wp2_with fail
      go_loopw [5, 7] (fun v kv wq => ∃ m : Nat, m ≤ k ∧ kv = .int .i64 ((k : Int) - 1 - (m : Int)) ∧ Want w l k (p + m) v wq) (fun _ kv _ => (intOf kv + 1).toNat)
      case atStart => exact ⟨0, Nat.zero_le _, congrArg (Value.int .i64) (by omega), hown, hbel⟩
      case round =>
        obtain ⟨m, hm, rfl, hown2, hbel2⟩ := hrel
        by_cases hlm : m < k
        · obtain ⟨q, hq⟩ : ∃ q, q = k - 1 - m := ⟨_, rfl⟩
          have eq : ((k : Int) - 1 - (m : Int)) = (q : Int) := by omega
          rw [eq]
          have hst := Hst.out m hlm
          rw [← hq] at hst
          have Hst2 := Lib.hid hst
          have hq7 : (q : Int) ≤ 7 := by omega
          have Hq := Lib.hid hq
          clear eq hst hq
          have hc1 : wr.cell? ⟨b, off + i, none⟩ = some (.int .u64 (x : Int)) := (hbel2.cell (p := ⟨b, off + i, none⟩) hbw).trans hcl
          have hown3 : ∀ z, (wr.alloc z).ownsRow w.heap.size 5 1 _ (p + m) _ := fun z => hown2.alloc z
          have hBs := hbel2.size
          go_wp2_with (at_builtin; refine wpList_append_sl rfl _ _ 22 rfl w.heap.size 5 i0 (.int .u8 0) 1 Try.underlying22 hi hz0 hz1 hz2 rfl _ _ _ rfl (hown3 _) _ 1 1 _ rfl (Sl.one_new wr _ 5 rfl) ?d1 ?d2 ?d3 ?_)
          case d1 => unfold maxLen; omega
          case d2 => omega
          case d3 => simp; omega
          intro v' w' g1 g2 _ _
          go_wp2_with fail
          have h5 := Hst2.out
          have h6 := Hq.out
          refine ⟨⟨m + 1, by omega, congrArg (Value.int .i64) (by omega), ?_, (hbel2.alloc hBs _).trans g2⟩, by simp only [intOf]; omega⟩
          rw [h5, nats_append]
          exact g1
        · have hmk : m = k := by omega
          have Hmk := Lib.hid hmk
          clear hmk
          go_wp2_with fail
          have e1 := Hnext.out
          rw [← Hmk.out] at e1
          refine ⟨⟨i + 1, by omega, by go_num, ?_, hbel2⟩, by simp only [intOf]; omega⟩
          rw [← Hmk.out, ← e1]
          rw [← Hmk.out] at hown2
          exact hown2
    · have hin : n = i := by omega
      subst hin
      have hwl := whole_law l k (by omega)
      rw [Hlen.out] at hwl
      rw [← hwl] at hown
      have hwant0 := hown
      obtain ⟨Aw, cw, rfl, hwant⟩ := Sl.of_own hown (nats_one _ _)
      have hml := hwant.len
      rw [nats_length] at hml
      rw [← hml] at hwant
      have B3 := hbel
      have Hml := Lib.hid hml
      clear hwl hwant0 hown hml
      go_upto_region 13 with fail
      rw [← Hml.out]
      refine region_all _ [Fact.sl n (nats .u64 l), Fact.is (.int .i64 (k : Int)), Fact.is (.int .i64 ((8 * k : Nat) : Int)), Fact.sl (putSpec l (8 * k)).length (nats .u8 (putSpec l (8 * k))), Fact.is (.string (strOf (putSpec l (8 * k)))), Fact.sl (putSpec l (8 * k)).length (nats .u8 (putSpec l (8 * k))), Fact.is (.string (strOf (putSpec l (8 * k)))), Fact.is (.bool true), Fact.is (.bool true)] [[(0, none)], [(1, none)], [(46, some 1)], [(45, some 0), (47, some 2)], [(48, some 3)], [(5, none)], [(50, some 5)], [(49, some 4), (51, some 6)], [(52, some 7)]] [true, true, true, true, true, true, true, true, true] (by kernel_rfl) (by kernel_rfl) ⟨⟨?_, ?_⟩, ⟨?_, ?_⟩, ⟨?_, ?_⟩, ⟨?_, ?_⟩, ⟨?_, ?_⟩, ⟨?_, ?_⟩, ⟨?_, ?_⟩, ⟨?_, ?_⟩, ⟨?_, ?_⟩, trivial⟩ ?_
      · intro ρ w' hc hB h0
        refine chain_run rfl ?_
        exact opk_move rfl ⟨Below.refl _ _, ⟨_, _, h0, (hl.keep B3).keep hB⟩⟩
      · exact rfl
      · intro ρ w' hc hB h1
        refine chain_run rfl ?_
        exact opk_move rfl ⟨Below.refl _ _, h1⟩
      · exact rfl
      · intro ρ w' hc hB h46
        refine chain_run rfl ?_
        exact opk_mul_i64 rfl (hc.1 _) h46 ⟨Below.refl _ _, congrArg (Value.int .i64) (by rw [IntWalk.i64_in _ (by omega)]; omega)⟩
      · exact rfl
      · intro ρ w' hc hB h45 h47
        refine chain_run rfl ?_
        obtain ⟨A1, c1, e1, s1⟩ := h45
        have e47 : ρ (Operand.tmp 47) = .int .i64 ((8 * k : Nat) : Int) := h47
        refine opk_call rfl hc Try.func20 (by kernel_rfl) (by kernel_rfl) ?_
        rw [show (#[Operand.const (Value.slice none 0 0), Operand.tmp 45, Operand.tmp 47] : Array Operand).map ρ = #[.slice none 0 0, .slice A1 n c1, .int .i64 ((8 * k : Nat) : Int)] from by simp [hc.1, e1, e47]]
        refine (put_ok none 0 0 [] A1 n c1 l (8 * k) w' (Sl.none_ _) s1 Hb.out (by omega) (by omega)).mono ?_
        rintro e w2 ⟨A2, m2, c2, rfl, hs2, hb2⟩
        rw [List.nil_append] at hs2
        have hm2 : m2 = (putSpec l (8 * k)).length := by rw [← hs2.len, nats_length]
        subst hm2
        exact ⟨_, rfl, hb2, _, _, rfl, hs2⟩
      · exact rfl
      · intro ρ w' hc hB h48
        refine chain_run rfl ?_
        obtain ⟨A_, c_, e_, s_⟩ := h48
        exact opk_str rfl Try.underlying22 Try.underlying5 Try.underlying9 e_ s_ ⟨Below.refl _ _, rfl⟩
      · exact rfl
      · intro ρ w' hc hB h5
        refine chain_run rfl ?_
        exact opk_move rfl ⟨Below.refl _ _, ⟨_, _, h5, (hwant).keep hB⟩⟩
      · exact rfl
      · intro ρ w' hc hB h50
        refine chain_run rfl ?_
        obtain ⟨A_, c_, e_, s_⟩ := h50
        exact opk_str rfl Try.underlying22 Try.underlying5 Try.underlying9 e_ s_ ⟨Below.refl _ _, rfl⟩
      · exact rfl
      · intro ρ w' hc hB h49 h51
        refine chain_run rfl ?_
        exact opk_eql_string rfl h49 h51 ⟨Below.refl _ _, congrArg Value.bool (by simp)⟩
      · exact rfl
      · intro ρ w' hc hB h52
        refine chain_run rfl ?_
        exact opk_assign rfl ⟨Below.refl _ _, h52⟩
      · exact rfl
      intro a' w' hbe hsz hd hF hU
      have h4 := hF 8 _ 4 rfl rfl
      have h5 : a'.tmps.getD 4 undef = .bool true := h4
      go_wp2_with fail
      refine bodyPost_ret (results_tmp rfl _ _ _) hd ?_
      rw [h5]
      exact ⟨rfl, below_trans' hbel hbe⟩
end Go.Proofs.Ytepkboilfgmkkaa
