/- slices.Repeat at one int64. -/
import Derived.Test.YtehcbgnoiogncaaOps5
import Derived.Test.YtehcbgnoiogncaaRunRd2
import Derived.Test.YtehcbgnoiogncaaRow
import Derived.Test.YtehcbgnoiogncaaShelf
import Derived.Laws.CopyOwn
import Derived.Deep.DeepCutAuto
namespace Go.Proofs.Ytehcbgnoiogncaa
open Go.RowKit
set_option linter.unusedVariables false

theorem own_full {w : World} {base : Nat} {e : TypeId} {g n : Nat} {xs : List Value} (h : w.ownsRow base e 1 (.slice (some ⟨g, 0, none⟩) n n) n xs) : w.heap[g]? = some (.cells xs.toArray e (0, 0)) := by
  rcases h.2 with ⟨h1, _⟩ | ⟨g', cap, cur, hv, hb, hg, hle, hm, hs, ht⟩
  · cases h1
  · injection hv with h1 h2 h3
    injection h1 with h1
    injection h1 with h1
    subst h1 h3
    have : cur.toList.length ≤ n * 1 := by rw [Array.length_toList, hs]; exact Nat.le_refl _
    rw [List.take_of_length_le this] at ht
    rw [← ht]
    exact hg

theorem splice_head (u z : Value) (k : Nat) (hk : 1 ≤ k) : splice (List.replicate k z) 0 [u] = List.replicate 1 u ++ List.replicate (k - 1) z := by
  unfold splice
  obtain ⟨m, rfl⟩ : ∃ m, k = m + 1 := ⟨k - 1, by omega⟩
  simp [List.replicate_succ]
theorem splice_more (u z : Value) (k j m : Nat) (hj : j + m ≤ k) : splice (List.replicate j u ++ List.replicate (k - j) z) j (List.replicate m u) = List.replicate (j + m) u ++ List.replicate (k - (j + m)) z := by
  unfold splice
  rw [List.length_replicate, List.take_append_of_le_length (by simp), List.take_of_length_le (by simp), List.drop_append, List.length_replicate, List.drop_eq_nil_of_le (by simp), List.nil_append, List.drop_replicate, ← List.append_assoc, List.replicate_append_replicate]
  congr 2
  omega
theorem sl_full {w : World} {g k : Nat} {e : TypeId} {u z : Value} (h : w.heap[g]? = some (.cells (List.replicate k u ++ List.replicate (k - k) z).toArray e (0, 0))) (h1 : u.oneCell' = true) (hk : k ≤ maxLen) : Sl w (some ⟨g, 0, none⟩) k k (List.replicate k u) := by
  refine ⟨by simp, Nat.le_refl _, hk, (fun h => by cases h), (fun ad had j x hx => ?_), fun x hx => by rw [List.eq_of_mem_replicate hx]; exact h1⟩
  injection had with had
  subst had
  rw [add_none, Nat.zero_add, cell_of_row w g j _ e (0, 0) h]
  rw [Nat.sub_self, List.replicate_zero, List.append_nil, List.getElem?_toArray]
  exact hx
theorem cell_front {w : World} {g k j m : Nat} {e : TypeId} {u z : Value} (h : w.heap[g]? = some (.cells (List.replicate j u ++ List.replicate (k - j) z).toArray e (0, 0))) (hm : m ≤ j) : ∀ i v, (List.replicate m u)[i]? = some v → w.cell? ((⟨g, 0, none⟩ : Addr).add i) = some v := by
  intro i v hv
  rw [add_none, Nat.zero_add, cell_of_row w g i _ e (0, 0) h]
  rw [List.getElem?_replicate] at hv
  split at hv
  · rename_i hi
    simp only [List.getElem?_toArray]
    rw [List.getElem?_append_left (by simp; omega), List.getElem?_replicate, if_pos (by omega)]
    exact hv
  · cases hv

set_option maxHeartbeats 1600000 in
set_option maxRecDepth 4000 in
theorem repeat_one (A : Option Addr) (c k : Nat) (d : Int) (w : World) (hs : Sl w A 1 c (ints .i64 [d])) (h3 : 3 ≤ k) (hk : k ≤ 130) :
    Calls Try.prog 31 #[.slice A 1 c, .int .i64 (k : Int)] w fun e w' => ∃ A', e = .returned (.slice A' k k) ∧ Sl w' A' k k (ints .i64 (List.replicate k d)) ∧ Below w.heap.size w w' := by
  have hmul := Try.bits_Mul 1 k (by decide) (by omega) w
  rw [Nat.one_mul, show k / 18446744073709551616 = 0 from by omega, show k % 18446744073709551616 = k from by omega] at hmul
  obtain ⟨i0, hi, hz0, hz1, hz2⟩ := info_parts Try.info2
  have hsz1 : (Try.prog.info? 2).map (·.size) = some 1 := by rw [hi, Option.map_some, hz1]
  have hkm : k ≤ maxLen := by unfold maxLen; omega
  have Hs := Lib.hid hs
  have Hmul := Lib.hid hmul
  clear hs hmul
  go_enter Try.func31, Try.ntmps31
  go_wp2_with fail
  refine Hmul.out.mono ?_
  rintro e w1 ⟨rfl, rfl⟩
  go_wp2_with (at_make; refine wpList_make_full _ rfl _ _ 25 rfl w1.heap.size 2 i0 (.int .i64 0) 1 Try.underlying25 hi hz0 hz1 .i64 .i64 _ _ k rfl rfl rfl rfl ?b2 ?b3 ?b4 ?_)
  case b2 => rw [hz2]; omega
  case b3 => exact hkm
  case b4 => exact Nat.le_refl _
  intro w2 hown hgrow
  rw [toList_madeCells_one] at hown
  have hg2 := own_full hown
  have hbel : Below w1.heap.size w1 w2 := (Below.refl _ _).grown hgrow (Nat.le_refl _) (fun k hk => by cases hk)
  have hs2 := Hs.out.keep hbel
  obtain ⟨b, off, rfl, hbw, hcell⟩ := hs2.at_ (by omega)
  have Hc := Lib.hid hcell
  have Hg2 := Lib.hid hg2
  clear hg2 hown hgrow hs2 hcell
  go_wp2_with (refine wpList_copy_splice rfl (.tmp 31) (.tmp 32) 25 25 rfl 2 Try.underlying25 hsz1 _ _ _ _ _ _ rfl rfl w1.heap.size 0 (List.replicate k (.int .i64 0)) 2 Hg2.out [Value.int .i64 d] ?c1 ?c2 ?c3 ?c4 w1.heap.size w1 hbel (Nat.le_refl _) ?_)
  case c1 => show 1 = min 1 k; omega
  case c2 =>
    intro j v hv
    have hj : j = 0 := by
      rcases Nat.eq_zero_or_pos j with h | h
      · exact h
      · rw [List.getElem?_eq_none (by simp; omega)] at hv; cases hv
    subst hj
    have := Hc.out 0 (by omega)
    rw [this]
    simpa [ints] using hv
  case c3 => simp; omega
  case c4 => intro v hv; simp at hv; subst hv; rfl
  intro w3 hg3 hb3
  have hg3' := hg3
  unfold Hid at hg3'
  rw [splice_head _ _ _ (by omega)] at hg3'
  have Hg3 := Lib.hid hg3'
  clear hg3 hg3' Hg2 hbel Hc
  go_wp2_with fail
  go_loopw [8] (fun nv wr => ∃ j : Nat, 1 ≤ j ∧ j ≤ k ∧ nv = .int .i64 (j : Int) ∧ Hid (wr.heap[w1.heap.size]? = some (.cells (List.replicate j (Value.int .i64 d) ++ List.replicate (k - j) (Value.int .i64 0)).toArray 2 (0, 0))) ∧ Below w1.heap.size w1 wr) (fun nv _ => k - (intOf nv).toNat)
  case atStart => exact ⟨1, Nat.le_refl _, by omega, rfl, Hg3.out, hb3⟩
  case round =>
    obtain ⟨j, h1, hj, rfl, Hg, hb⟩ := hrel
    by_cases hlt : j < k
    · obtain ⟨m, hm⟩ : ∃ m, m = min j (k - j) := ⟨_, rfl⟩
      have hne : ¬ k = j := by omega
      go_wp2_with fail
      refine region_put _ [Fact.is (.int .i64 (j : Int)), Fact.is (.slice (some ⟨w1.heap.size, 0, none⟩) k k), Fact.is (.int .i64 (j : Int)), Fact.is (.slice (some ⟨w1.heap.size, j, none⟩) (k - j) (k - j)), Fact.is (.slice (some ⟨w1.heap.size, 0, none⟩) k k), Fact.is (.int .i64 (j : Int)), Fact.is (.slice (some ⟨w1.heap.size, 0, none⟩) j k), Fact.is (.int .i64 (m : Int)), Fact.is (.int .i64 ((j + m : Nat) : Int)), Fact.is (.int .i64 ((j + m : Nat) : Int))] [[(8, none)], [(7, none)], [(8, none)], [(39, some 1), (40, some 2)], [(7, none)], [(8, none)], [(42, some 4), (43, some 5)], [(41, some 3), (44, some 6)], [(38, some 0), (45, some 7)], [(46, some 8)]] [true, true, true, true, true, true, true, true, true, true] [.pure, .pre, .pre, .pre, .pre, .pre, .pre, .put, .pure, .pure] [true, true, true, true, true, true, true, true, true, true] 7 999 (fun w4 => w4.heap[w1.heap.size]? = some (.cells (List.replicate (j + m) (Value.int .i64 d) ++ List.replicate (k - (j + m)) (Value.int .i64 0)).toArray 2 (0, 0)) ∧ Below w1.heap.size w1 w4) (fun _ => True) (by kernel_rfl) (by kernel_rfl) (by kernel_rfl) ⟨fun _ => Fact.free_is _, fun _ => Fact.free_is _, fun _ => Fact.free_is _, fun _ => Fact.free_is _, fun _ => Fact.free_is _, fun _ => Fact.free_is _, fun _ => Fact.free_is _, fun _ => Fact.free_is _, fun _ => Fact.free_is _, fun _ => Fact.free_is _, trivial⟩ ⟨⟨?_, ?_⟩, ⟨?_, ?_⟩, ⟨?_, ?_⟩, ⟨?_, ?_⟩, ⟨?_, ?_⟩, ⟨?_, ?_⟩, ⟨?_, ?_⟩, ⟨?_, ?_⟩, ⟨?_, ?_⟩, ⟨?_, ?_⟩, trivial⟩ ?_
      · intro ρ w' hc hB h8
        refine chain_run rfl ?_
        exact opk_move rfl ⟨rfl, h8⟩
      · exact rfl
      · intro ρ w' hc hB h7
        refine chain_run rfl ?_
        exact opk_move rfl ⟨Below.refl _ _, h7⟩
      · exact rfl
      · intro ρ w' hc hB h8
        refine chain_run rfl ?_
        exact opk_move rfl ⟨Below.refl _ _, h8⟩
      · exact rfl
      · intro ρ w' hc hB h39 h40
        refine chain_run rfl ?_
        exact opk_run (v := .slice (some ⟨w1.heap.size, j, none⟩) (k - j) (k - j)) (by simp [execOp, show ρ (.tmp 39) = _ from h39, show ρ (.tmp 40) = _ from h40, Instr.sliceAt, run_underlying Try.underlying25, run_slice_lo Try.underlying25 hi hz1 (some ⟨w1.heap.size, 0, none⟩) k k j hj (Nat.le_refl _) hkm, dropA, hne, add_none]) ⟨Below.refl _ _, rfl⟩
      · exact rfl
      · intro ρ w' hc hB h7
        refine chain_run rfl ?_
        exact opk_move rfl ⟨Below.refl _ _, h7⟩
      · exact rfl
      · intro ρ w' hc hB h8
        refine chain_run rfl ?_
        exact opk_move rfl ⟨Below.refl _ _, h8⟩
      · exact rfl
      · intro ρ w' hc hB h42 h43
        refine chain_run rfl ?_
        exact opk_run (v := .slice (some ⟨w1.heap.size, 0, none⟩) j k) (by simp [execOp, show ρ (.tmp 42) = _ from h42, show ρ (.tmp 43) = _ from h43, Instr.sliceAt, run_underlying Try.underlying25, run_slice_hi Try.underlying25 hi hz1 (some ⟨w1.heap.size, 0, none⟩) k k j hj (Nat.le_refl _) hkm]) ⟨Below.refl _ _, rfl⟩
      · exact rfl
      · intro ρ w' hc hB h41 h44
        refine chain_run rfl ?_
        have hg' : w'.heap[w1.heap.size]? = some (.cells (List.replicate j (Value.int .i64 d) ++ List.replicate (k - j) (Value.int .i64 0)).toArray 2 (0, 0)) := by rw [hB.block _ (Array.getElem?_eq_some_iff.1 Hg.out).1]; exact Hg.out
        refine opk_copy_row (cs := List.replicate m (Value.int .i64 d)) rfl Try.underlying25 hsz1 h41 h44 hg' (by rw [List.length_replicate, hm]) (cell_front hg' (by omega)) (by simp only [List.length_append, List.length_replicate]; omega) (fun v hv => by rw [List.eq_of_mem_replicate hv]; rfl) ?_
        intro w4 hg4 hb4
        rw [splice_more _ _ _ _ _ (by omega)] at hg4
        exact ⟨⟨hg4, hb4 _ _ (hb.trans (hB.mono hb.size)) (Nat.le_refl _)⟩, congrArg (Value.int .i64) (by simp)⟩
      · exact rfl
      · intro ρ w' hc hB h38 h45
        refine chain_run rfl ?_
        exact opk_add_i64 rfl h38 h45 (by omega) ⟨rfl, congrArg (Value.int .i64) (by omega)⟩
      · exact rfl
      · intro ρ w' hc hB h46
        refine chain_run rfl ?_
        exact opk_assign rfl ⟨rfl, h46⟩
      · exact rfl
      intro a' w' hP hsz hd hF hU
      obtain ⟨hP1, hP2⟩ : w'.heap[w1.heap.size]? = some (.cells (List.replicate (j + m) (Value.int .i64 d) ++ List.replicate (k - (j + m)) (Value.int .i64 0)).toArray 2 (0, 0)) ∧ Below w1.heap.size w1 w' := hP
      have e8 := hF 9 _ 8 rfl rfl rfl
      obtain ⟨f, hf, hlit⟩ := act_lit a' _ _ [38, 39, 40, 41, 42, 43, 44, 45, 46, 8] hsz hd (fun t ht => hU t (by
        intro i o ho hod
        have := List.mem_filterMap.2 ⟨o, List.mem_of_getElem? ho, hod⟩
        revert this
        exact fun h => ht (by simpa using h)))
      rw [← hf] at e8
      have e8' : f 8 = .int .i64 ((j + m : Nat) : Int) := e8
      rw [hlit]
      have HP1 := Lib.hid hP1
      clear hF hU hlit hf hsz hd e8 hP1
      simp [List.range_succ, e8']
      go_wp2_with fail
      exact ⟨⟨j + m, by omega, by omega, by first | rfl | simp, HP1.out, hP2⟩, by simp only [intOf]; omega⟩
    · obtain rfl : j = k := by omega
      have Hs := Lib.hid (sl_full Hg.out rfl hkm)
      go_wp2_with fail
      go_ret
      exact ⟨_, rfl, by simpa [ints] using Hs.out, hb⟩
end Go.Proofs.Ytehcbgnoiogncaa
