/- NumsBigs: the walk. (Printed by gen/numslaw4.py.) -/
import Derived.Test.YtepkboilfgmkkaaNumsKnown
import Derived.Test.YtepkboilfgmkkaaOps4
namespace Go.Proofs.Ytepkboilfgmkkaa
open Go.RowKit
open PackMath
set_option linter.unusedVariables false

theorem bigS_put (bs : List Nat) (u : Nat) (k : Int) (h : 1 ≤ k ∧ k ≤ 8) : bigS (bs ++ bigP u k) (bs.length : Int) k = (u % 2 ^ (8 * k.toNat), true) := by
  unfold bigS bigP
  rw [if_pos h]
  have hl := bigB_length k.toNat u
  rw [if_neg (by unfold bigOut; rw [List.length_append, hl]; omega), Int.toNat_natCast, List.drop_left, List.take_of_length_le (by omega), bigV_bigB, Nat.zero_mul, Nat.zero_add]

/-- The frame behind a region, slot by slot. -/
theorem act_all (a' : Act) (n : Nat) (hsz : a'.tmps.size = n) : ∃ f : Tmp → Value, (∀ t, f t = a'.tmps.getD t undef) ∧ a' = ⟨((List.range n).map f).toArray, a'.defers⟩ := by
  refine ⟨fun t => a'.tmps.getD t undef, fun _ => rfl, ?_⟩
  obtain ⟨tm', ds'⟩ := a'
  simp only at hsz ⊢
  congr 1
  refine Array.ext (by simp [hsz]) fun i h1 h2 => ?_
  simp [h1]

set_option maxHeartbeats 6400000 in
set_option maxRecDepth 100000 in
theorem law_NumsBigs (A : Option Addr) (n c : Nat) (bs : List Nat) (u0 k at_ : Int) (w : World) (hb0 : Sl w A n c (nats .u8 bs)) (hbs : ∀ x ∈ bs, x < 256)
    (hu0 : 0 ≤ u0 ∧ u0 < ((18446744073709551616 : Nat) : Int)) (hk : -9223372036854775808 ≤ k ∧ k ≤ 9223372036854775807) (hat : -9223372036854775808 ≤ at_ ∧ at_ ≤ 9223372036854775807) :
    Calls Try.prog 12 #[.slice A n c, .int .u64 u0, .int .i64 k, .int .i64 at_] w fun e w' => e = .returned (.bool true) ∧ Below w.heap.size w w' := by
  obtain ⟨u, rfl⟩ : ∃ u : Nat, u0 = (u : Int) := ⟨u0.toNat, by omega⟩
  have hu : u < 18446744073709551616 := by omega
  have hle := hb0.le
  have hmax := hb0.max
  unfold maxLen at hmax
  have hlen := hb0.len
  rw [nats_length] at hlen
  by_cases hn : n ≤ 3000
  · have Hu := Lib.hid hu
    have V1 := Lib.hid (fun W h => bigp A n c bs at_ k W h hbs hat.1 hat.2 hk.1 hk.2)
    have V2 := Lib.hid (fun W h => bigr A n c bs at_ k W h hbs hat.1 hat.2 hk.1 hk.2)
    have B1 := Lib.hid (fun W => bits_p u W hu)
    have B2 := Lib.hid (fun W => bits_r u W hu)
    have Hpl := Lib.hid (bigP_length u k)
    have Hxb := Lib.hid (fun x hx => (List.mem_append.1 hx).elim (hbs x) (bigP_byte u k x) : ∀ x ∈ bs ++ bigP u k, x < 256)
    have Hlast := Lib.hid (fun h => bigS_put bs u k h)
    have Hno := Lib.hid (show k < 1 ∨ 8 < k → bs ++ bigP u k = bs from fun h => by unfold bigP; rw [if_neg (by omega), List.append_nil])
    generalize bigS bs at_ k = r at *
    obtain ⟨r1, r2⟩ := r
    generalize Lib.bitLen u = bl at *
    have Hlen := Lib.hid hlen
    have hput := fun A' c' (W : World) (h : Sl W A' n c' (nats .u8 bs)) => putbig_p A' n c' bs u k W h hu (by omega)
    have hxl : n + (bigP u k).length = (bs ++ bigP u k).length := by rw [List.length_append, hlen]
    generalize hxs : bs ++ bigP u k = xs at *
    have Hxs := Lib.hid hxs
    have Hxl := Lib.hid hxl
    have Hput := Lib.hid hput
    obtain ⟨k1, k2⟩ := hk
    clear hbs hat hu hu0 hlen hxs hxl hput
    obtain ⟨i0, hi, hz0, hz1, hz2⟩ := info_parts Try.info5
    go_enter Try.func12, Try.ntmps12
    go_wp2_with fail
    refine (known1 _).mono ?_
    rintro e w1 ⟨rfl, hb1⟩
    have sb1 := hb0.keep (hb1.alloc hb1.size (.cells #[] 5))
    have ho1 : (w1.alloc (.cells #[] 5)).ownsRow w1.heap.size 5 1 (.slice (some ⟨w1.heap.size, 0, none⟩) 0 0) 0 [] := World.ownsRow_made w1 #[] 0 (Nat.le_refl _) (by decide) rfl
    go_wp2_with (at_builtin; refine wpList_append_sl rfl _ _ 22 rfl w1.heap.size 5 i0 (.int .u8 0) 1 Try.underlying22 hi hz0 hz1 hz2 rfl _ 0 [] rfl ho1 _ n c _ rfl sb1 ?c1 ?c2 ?c3 ?_)
    case c1 => unfold maxLen; omega
    case c2 => omega
    case c3 => simp
    intro v3 w3 ho3 hb3 _ _
    obtain ⟨A3, c3, rfl, s3⟩ := Sl.of_own ho3 (nats_one _ _)
    have B3 := below_trans' hb1 ((below_new w1 (.cells #[] 5)).trans hb3)
    clear ho3 ho1 sb1 hb3 hb1
    go_wp2_with fail
    refine (Hput.out _ _ _ s3).mono ?_
    rintro e w4 ⟨Ax, mx, rfl, sx, hb4⟩
    have hmx := sx.len
    rw [nats_length] at hmx
    have Hmx := Lib.hid (Hxl.out.trans hmx)
    have Hmx2 := Lib.hid hmx
    have B4 := below_trans' B3 hb4
    have sb := hb0.keep B4
    have hsxm := sx.max
    unfold maxLen at hsxm
    clear hmx s3 B3 hb4
    go_wp2_with fail
    refine (V1.out _ sb).mono ?_
    rintro e w5 ⟨rfl, rfl⟩
    unfold bigVal
    go_wp2_with fail
    refine (V2.out _ sb).mono ?_
    rintro e w5 ⟨rfl, rfl⟩
    unfold bigVal
    go_upto_region 8 with fail
    refine region_weak _ [Fact.is (.slice Ax mx mx), Fact.is (.string (strOf xs)), Fact.emptyAt w5.heap.size 5, Fact.is (.slice A n c), Fact.own w5.heap.size 5 n (nats .u8 bs), Fact.is (.int .u64 (u : Int)), Fact.is (.int .i64 k), Fact.sl mx (nats .u8 xs), Fact.is (.string (strOf xs)), Fact.is (.bool false), Fact.is (.bool false), Fact.is (.int .u64 (r1 : Int)), Fact.is (.int .u64 (r1 : Int)), Fact.is (.bool false), Fact.is (.bool false), Fact.is (.bool false), Fact.is (.bool r2), Fact.is (.bool r2), Fact.is (.bool false), Fact.is (.bool false), Fact.is (.bool false), Fact.is (.int .u64 (u : Int)), Fact.is (.int .i64 (bl : Int)), Fact.is (.int .u64 (u : Int)), Fact.is (.int .i64 (bl : Int)), Fact.is (.bool false), Fact.is (.bool false)] [[(9, none)], [(41, some 0)], [], [(0, none)], [(43, some 2), (44, some 3)], [(1, none)], [(2, none)], [(45, some 4), (46, some 5), (47, some 6)], [(48, some 7)], [(42, some 1), (49, some 8)], [(50, some 9)], [(10, none)], [(12, none)], [(52, some 11), (53, some 12)], [(51, some 10), (54, some 13)], [(55, some 14)], [(11, none)], [(13, none)], [(57, some 16), (58, some 17)], [(56, some 15), (59, some 18)], [(60, some 19)], [(1, none)], [(62, some 21)], [(1, none)], [(64, some 23)], [(63, some 22), (65, some 24)], [(61, some 20), (66, some 25)]] [true, true, true, true, true, true, true, true, true, true, true, true, true, true, true, true, true, true, true, true, true, true, true, true, true, true, true] 7 [2, 4] (by kernel_rfl) (by kernel_rfl) (by kernel_rfl) (firm_list (l := [0, 1, 3, 5, 6]) (by kernel_rfl) ⟨Fact.firm_is _ _, Fact.firm_is _ _, Fact.firm_is _ _, Fact.firm_is _ _, Fact.firm_is _ _, trivial⟩) ⟨⟨?_, ?_⟩, ⟨?_, ?_⟩, ⟨?_, ?_⟩, ⟨?_, ?_⟩, ⟨?_, ?_⟩, ⟨?_, ?_⟩, ⟨?_, ?_⟩, ⟨?_, ?_⟩, ⟨?_, ?_⟩, ⟨?_, ?_⟩, ⟨?_, ?_⟩, ⟨?_, ?_⟩, ⟨?_, ?_⟩, ⟨?_, ?_⟩, ⟨?_, ?_⟩, ⟨?_, ?_⟩, ⟨?_, ?_⟩, ⟨?_, ?_⟩, ⟨?_, ?_⟩, ⟨?_, ?_⟩, ⟨?_, ?_⟩, ⟨?_, ?_⟩, ⟨?_, ?_⟩, ⟨?_, ?_⟩, ⟨?_, ?_⟩, ⟨?_, ?_⟩, ⟨?_, ?_⟩, trivial⟩ ?_
    · intro ρ w' hc hB h9
      refine chain_run rfl ?_
      exact opk_move rfl ⟨Below.refl _ _, h9⟩
    · exact rfl
    · intro ρ w' hc hB h41
      refine chain_run rfl ?_
      exact opk_str rfl Try.underlying22 Try.underlying5 Try.underlying9 h41 (sx.keep hB) ⟨Below.refl _ _, rfl⟩
    · exact rfl
    · intro ρ w' hc hB
      refine chain_run rfl ?_
      exact opk_empty Try.underlying22 hi hz0 rfl ⟨below_new _ _, _, rfl, hB.size, heap_alloc_new _ _⟩
    · exact rfl
    · intro ρ w' hc hB h0
      refine chain_run rfl ?_
      exact opk_move rfl ⟨Below.refl _ _, h0⟩
    · exact rfl
    · intro ρ w' hc hB h43 h44
      refine chain_run rfl ?_
      obtain ⟨g0, e0, hB0, hg0⟩ := h43
      exact opk_append0_own Try.underlying22 hi hz0 hz1 hz2 rfl rfl e0 hB0 hg0 h44 (sb.keep hB) (by unfold maxLen; omega) (by omega) (fun v w2 hb2 ho => ⟨hb2, ho⟩)
    · exact rfl
    · intro ρ w' hc hB h1
      refine chain_run rfl ?_
      exact opk_move rfl ⟨Below.refl _ _, h1⟩
    · exact rfl
    · intro ρ w' hc hB h2
      refine chain_run rfl ?_
      exact opk_move rfl ⟨Below.refl _ _, h2⟩
    · exact rfl
    · intro ρ w' hc hB h45 h46 h47
      refine chain_run rfl ?_
      have e2 : ρ (Operand.tmp 46) = .int .u64 (u : Int) := h46
      have e3 : ρ (Operand.tmp 47) = .int .i64 k := h47
      refine opk_call rfl hc Try.func48 (by kernel_rfl) (by kernel_rfl) ?_
      rw [show (#[Operand.tmp 45, Operand.tmp 46, Operand.tmp 47] : Array Operand).map ρ = #[ρ (Operand.tmp 45), .int .u64 (u : Int), .int .i64 k] from by simp [e2, e3]]
      refine (putbig_r w5.heap.size n bs u k (ρ (Operand.tmp 45)) w' h45 hB.size Hu.out (by omega)).mono ?_
      rintro e w2 ⟨v', rfl, ho, hb2⟩
      rw [Hxs.out, Hmx.out] at ho
      obtain ⟨A3, c3, rfl, hs3⟩ := Sl.of_own ho (nats_one _ _)
      exact ⟨_, rfl, hb2, _, _, rfl, hs3⟩
    · exact rfl
    · intro ρ w' hc hB h48
      refine chain_run rfl ?_
      obtain ⟨A_, c_, e_, s_⟩ := h48
      exact opk_str rfl Try.underlying22 Try.underlying5 Try.underlying9 e_ s_ ⟨Below.refl _ _, rfl⟩
    · exact rfl
    · intro ρ w' hc hB h42 h49
      refine chain_run rfl ?_
      exact opk_neq_string rfl h42 h49 ⟨Below.refl _ _, congrArg Value.bool (by simp)⟩
    · exact rfl
    · intro ρ w' hc hB h50
      refine chain_run rfl ?_
      exact opk_move rfl ⟨Below.refl _ _, h50⟩
    · exact rfl
    · intro ρ w' hc hB h10
      refine chain_run rfl ?_
      exact opk_move rfl ⟨Below.refl _ _, h10⟩
    · exact fun v w h => ⟨false, h, rfl⟩
    · intro ρ w' hc hB h12
      refine chain_run rfl ?_
      exact opk_move rfl ⟨Below.refl _ _, h12⟩
    · exact fun v w h => ⟨false, h, rfl⟩
    · intro ρ w' hc hB h52 h53
      refine chain_run rfl ?_
      exact opk_neq_int rfl h52 h53 ⟨Below.refl _ _, congrArg Value.bool (by simp)⟩
    · exact fun v w h => ⟨false, h, rfl⟩
    · intro ρ w' hc hB h51 h54
      refine chain_run rfl ?_
      exact opk_pick rfl h51 ⟨Below.refl _ _, h54⟩
    · exact rfl
    · intro ρ w' hc hB h55
      refine chain_run rfl ?_
      exact opk_move rfl ⟨Below.refl _ _, h55⟩
    · exact rfl
    · intro ρ w' hc hB h11
      refine chain_run rfl ?_
      exact opk_move rfl ⟨Below.refl _ _, h11⟩
    · exact fun v w h => ⟨false, h, rfl⟩
    · intro ρ w' hc hB h13
      refine chain_run rfl ?_
      exact opk_move rfl ⟨Below.refl _ _, h13⟩
    · exact fun v w h => ⟨false, h, rfl⟩
    · intro ρ w' hc hB h57 h58
      refine chain_run rfl ?_
      exact opk_neq_bool Try.underlying4 rfl h57 h58 ⟨Below.refl _ _, congrArg Value.bool (by simp)⟩
    · exact fun v w h => ⟨false, h, rfl⟩
    · intro ρ w' hc hB h56 h59
      refine chain_run rfl ?_
      exact opk_pick rfl h56 ⟨Below.refl _ _, h59⟩
    · exact rfl
    · intro ρ w' hc hB h60
      refine chain_run rfl ?_
      exact opk_move rfl ⟨Below.refl _ _, h60⟩
    · exact rfl
    · intro ρ w' hc hB h1
      refine chain_run rfl ?_
      exact opk_move rfl ⟨Below.refl _ _, h1⟩
    · exact fun v w h => ⟨false, h, rfl⟩
    · intro ρ w' hc hB h62
      refine chain_run rfl ?_
      have e2 : ρ (Operand.tmp 62) = .int .u64 (u : Int) := h62
      refine opk_call rfl hc Try.func49 (by kernel_rfl) (by kernel_rfl) ?_
      rw [show (#[Operand.tmp 62] : Array Operand).map ρ = #[.int .u64 (u : Int)] from by simp [e2]]
      refine (B1.out w').mono ?_
      rintro e w2 ⟨rfl, rfl⟩
      exact ⟨_, rfl, Below.refl _ _, rfl⟩
    · exact fun v w h => ⟨false, h, rfl⟩
    · intro ρ w' hc hB h1
      refine chain_run rfl ?_
      exact opk_move rfl ⟨Below.refl _ _, h1⟩
    · exact fun v w h => ⟨false, h, rfl⟩
    · intro ρ w' hc hB h64
      refine chain_run rfl ?_
      have e2 : ρ (Operand.tmp 64) = .int .u64 (u : Int) := h64
      refine opk_call rfl hc Try.func50 (by kernel_rfl) (by kernel_rfl) ?_
      rw [show (#[Operand.tmp 64] : Array Operand).map ρ = #[.int .u64 (u : Int)] from by simp [e2]]
      refine (B2.out w').mono ?_
      rintro e w2 ⟨rfl, rfl⟩
      exact ⟨_, rfl, Below.refl _ _, rfl⟩
    · exact fun v w h => ⟨false, h, rfl⟩
    · intro ρ w' hc hB h63 h65
      refine chain_run rfl ?_
      exact opk_neq_int rfl h63 h65 ⟨Below.refl _ _, congrArg Value.bool (by simp)⟩
    · exact fun v w h => ⟨false, h, rfl⟩
    · intro ρ w' hc hB h61 h66
      refine chain_run rfl ?_
      exact opk_pick rfl h61 ⟨Below.refl _ _, h66⟩
    · exact rfl
    intro a' w' hbe hsz hd hF hU
    have e7 : a'.tmps.getD 67 undef = .bool false := hF 26 _ 67 rfl (by decide) rfl
    obtain ⟨ff, hf, hlit⟩ := act_all a' 103 (hsz.trans (by rfl))
    replace hlit : a' = ⟨#[ff 0, ff 1, ff 2, ff 3, ff 4, ff 5, ff 6, ff 7, ff 8, ff 9, ff 10, ff 11, ff 12, ff 13, ff 14, ff 15, ff 16, ff 17, ff 18, ff 19, ff 20, ff 21, ff 22, ff 23, ff 24, ff 25, ff 26, ff 27, ff 28, ff 29, ff 30, ff 31, ff 32, ff 33, ff 34, ff 35, ff 36, ff 37, ff 38, ff 39, ff 40, ff 41, ff 42, ff 43, ff 44, ff 45, ff 46, ff 47, ff 48, ff 49, ff 50, ff 51, ff 52, ff 53, ff 54, ff 55, ff 56, ff 57, ff 58, ff 59, ff 60, ff 61, ff 62, ff 63, ff 64, ff 65, ff 66, ff 67, ff 68, ff 69, ff 70, ff 71, ff 72, ff 73, ff 74, ff 75, ff 76, ff 77, ff 78, ff 79, ff 80, ff 81, ff 82, ff 83, ff 84, ff 85, ff 86, ff 87, ff 88, ff 89, ff 90, ff 91, ff 92, ff 93, ff 94, ff 95, ff 96, ff 97, ff 98, ff 99, ff 100, ff 101, ff 102], []⟩ := hlit.trans (by rw [hd]; rfl)
    have e0 : ff 0 = .slice A n c := (hf 0).trans (hU 0 (by
      intro i o ho hod
      have := List.mem_filterMap.2 ⟨o, List.mem_of_getElem? ho, hod⟩
      simp at this))
    have e1 : ff 1 = .int .u64 (u : Int) := (hf 1).trans (hU 1 (by
      intro i o ho hod
      have := List.mem_filterMap.2 ⟨o, List.mem_of_getElem? ho, hod⟩
      simp at this))
    have e2 : ff 2 = .int .i64 k := (hf 2).trans (hU 2 (by
      intro i o ho hod
      have := List.mem_filterMap.2 ⟨o, List.mem_of_getElem? ho, hod⟩
      simp at this))
    have e9 : ff 9 = .slice Ax mx mx := (hf 9).trans (hU 9 (by
      intro i o ho hod
      have := List.mem_filterMap.2 ⟨o, List.mem_of_getElem? ho, hod⟩
      simp at this))
    rw [← hf] at e7
    rw [hlit, e0, e1, e2, e9, e7]
    clear hF hU hlit hf hsz hd e0 e1 e2 e9 e7
    have B5 := below_trans' B4 hbe
    have sx5 := sx.keep hbe
    clear sx sb
    by_cases hk8 : 1 ≤ k ∧ k ≤ 8
    · have hbg := bigp Ax mx mx xs (n : Int) k w' sx5 Hxb.out (by omega) (by omega) k1 k2
      have hl := Hlast.out hk8
      rw [Hlen.out] at hl
      rw [hl] at hbg
      have Hbg := Lib.hid hbg
      have Hu2 := Hu.out
      clear hbg hl sx5
      rcases (show k = 1 ∨ k = 2 ∨ k = 3 ∨ k = 4 ∨ k = 5 ∨ k = 6 ∨ k = 7 ∨ k = 8 from by omega) with rfl | rfl | rfl | rfl | rfl | rfl | rfl | rfl
      · have hz : IntKind.u64.wrap ((u : Int) * 72057594037927936) / 72057594037927936 = ((u % 256 : Nat) : Int) := by rw [IntKind.wrap_u64]; omega
        obtain ⟨z, hzz⟩ : ∃ z, z = u % 256 := ⟨_, rfl⟩
        have hbg : Calls Try.prog 46 #[.slice Ax mx mx, .int .i64 (n : Int), .int .i64 1] w' fun e w'' => e = .returned (bigVal (z, true)) ∧ w'' = w' := by rw [hzz]; exact Hbg.out
        rw [← hzz] at hz
        have Hbg2 := Lib.hid hbg
        have Hz := Lib.hid hz
        have Hzz := Lib.hid hzz
        clear hbg hz hzz
        go_wp2_with fail
        refine Hbg2.out.mono ?_
        rintro e w6 ⟨rfl, rfl⟩
        unfold bigVal
        go_wp2_with fail
        go_ret
        refine ⟨congrArg (fun b => Ending.returned (Value.bool b)) ?_, B5⟩
        have h1 := Hz.out
        have h2 := Hzz.out
        first
          | exact beq_iff_eq.2 h1.symm
          | (rw [beq_iff_eq]; omega)
      · have hz : IntKind.u64.wrap ((u : Int) * 281474976710656) / 281474976710656 = ((u % 65536 : Nat) : Int) := by rw [IntKind.wrap_u64]; omega
        obtain ⟨z, hzz⟩ : ∃ z, z = u % 65536 := ⟨_, rfl⟩
        have hbg : Calls Try.prog 46 #[.slice Ax mx mx, .int .i64 (n : Int), .int .i64 2] w' fun e w'' => e = .returned (bigVal (z, true)) ∧ w'' = w' := by rw [hzz]; exact Hbg.out
        rw [← hzz] at hz
        have Hbg2 := Lib.hid hbg
        have Hz := Lib.hid hz
        have Hzz := Lib.hid hzz
        clear hbg hz hzz
        go_wp2_with fail
        refine Hbg2.out.mono ?_
        rintro e w6 ⟨rfl, rfl⟩
        unfold bigVal
        go_wp2_with fail
        go_ret
        refine ⟨congrArg (fun b => Ending.returned (Value.bool b)) ?_, B5⟩
        have h1 := Hz.out
        have h2 := Hzz.out
        first
          | exact beq_iff_eq.2 h1.symm
          | (rw [beq_iff_eq]; omega)
      · have hz : IntKind.u64.wrap ((u : Int) * 1099511627776) / 1099511627776 = ((u % 16777216 : Nat) : Int) := by rw [IntKind.wrap_u64]; omega
        obtain ⟨z, hzz⟩ : ∃ z, z = u % 16777216 := ⟨_, rfl⟩
        have hbg : Calls Try.prog 46 #[.slice Ax mx mx, .int .i64 (n : Int), .int .i64 3] w' fun e w'' => e = .returned (bigVal (z, true)) ∧ w'' = w' := by rw [hzz]; exact Hbg.out
        rw [← hzz] at hz
        have Hbg2 := Lib.hid hbg
        have Hz := Lib.hid hz
        have Hzz := Lib.hid hzz
        clear hbg hz hzz
        go_wp2_with fail
        refine Hbg2.out.mono ?_
        rintro e w6 ⟨rfl, rfl⟩
        unfold bigVal
        go_wp2_with fail
        go_ret
        refine ⟨congrArg (fun b => Ending.returned (Value.bool b)) ?_, B5⟩
        have h1 := Hz.out
        have h2 := Hzz.out
        first
          | exact beq_iff_eq.2 h1.symm
          | (rw [beq_iff_eq]; omega)
      · have hz : IntKind.u64.wrap ((u : Int) * 4294967296) / 4294967296 = ((u % 4294967296 : Nat) : Int) := by rw [IntKind.wrap_u64]; omega
        obtain ⟨z, hzz⟩ : ∃ z, z = u % 4294967296 := ⟨_, rfl⟩
        have hbg : Calls Try.prog 46 #[.slice Ax mx mx, .int .i64 (n : Int), .int .i64 4] w' fun e w'' => e = .returned (bigVal (z, true)) ∧ w'' = w' := by rw [hzz]; exact Hbg.out
        rw [← hzz] at hz
        have Hbg2 := Lib.hid hbg
        have Hz := Lib.hid hz
        have Hzz := Lib.hid hzz
        clear hbg hz hzz
        go_wp2_with fail
        refine Hbg2.out.mono ?_
        rintro e w6 ⟨rfl, rfl⟩
        unfold bigVal
        go_wp2_with fail
        go_ret
        refine ⟨congrArg (fun b => Ending.returned (Value.bool b)) ?_, B5⟩
        have h1 := Hz.out
        have h2 := Hzz.out
        first
          | exact beq_iff_eq.2 h1.symm
          | (rw [beq_iff_eq]; omega)
      · have hz : IntKind.u64.wrap ((u : Int) * 16777216) / 16777216 = ((u % 1099511627776 : Nat) : Int) := by rw [IntKind.wrap_u64]; omega
        obtain ⟨z, hzz⟩ : ∃ z, z = u % 1099511627776 := ⟨_, rfl⟩
        have hbg : Calls Try.prog 46 #[.slice Ax mx mx, .int .i64 (n : Int), .int .i64 5] w' fun e w'' => e = .returned (bigVal (z, true)) ∧ w'' = w' := by rw [hzz]; exact Hbg.out
        rw [← hzz] at hz
        have Hbg2 := Lib.hid hbg
        have Hz := Lib.hid hz
        have Hzz := Lib.hid hzz
        clear hbg hz hzz
        go_wp2_with fail
        refine Hbg2.out.mono ?_
        rintro e w6 ⟨rfl, rfl⟩
        unfold bigVal
        go_wp2_with fail
        go_ret
        refine ⟨congrArg (fun b => Ending.returned (Value.bool b)) ?_, B5⟩
        have h1 := Hz.out
        have h2 := Hzz.out
        first
          | exact beq_iff_eq.2 h1.symm
          | (rw [beq_iff_eq]; omega)
      · have hz : IntKind.u64.wrap ((u : Int) * 65536) / 65536 = ((u % 281474976710656 : Nat) : Int) := by rw [IntKind.wrap_u64]; omega
        obtain ⟨z, hzz⟩ : ∃ z, z = u % 281474976710656 := ⟨_, rfl⟩
        have hbg : Calls Try.prog 46 #[.slice Ax mx mx, .int .i64 (n : Int), .int .i64 6] w' fun e w'' => e = .returned (bigVal (z, true)) ∧ w'' = w' := by rw [hzz]; exact Hbg.out
        rw [← hzz] at hz
        have Hbg2 := Lib.hid hbg
        have Hz := Lib.hid hz
        have Hzz := Lib.hid hzz
        clear hbg hz hzz
        go_wp2_with fail
        refine Hbg2.out.mono ?_
        rintro e w6 ⟨rfl, rfl⟩
        unfold bigVal
        go_wp2_with fail
        go_ret
        refine ⟨congrArg (fun b => Ending.returned (Value.bool b)) ?_, B5⟩
        have h1 := Hz.out
        have h2 := Hzz.out
        first
          | exact beq_iff_eq.2 h1.symm
          | (rw [beq_iff_eq]; omega)
      · have hz : IntKind.u64.wrap ((u : Int) * 256) / 256 = ((u % 72057594037927936 : Nat) : Int) := by rw [IntKind.wrap_u64]; omega
        obtain ⟨z, hzz⟩ : ∃ z, z = u % 72057594037927936 := ⟨_, rfl⟩
        have hbg : Calls Try.prog 46 #[.slice Ax mx mx, .int .i64 (n : Int), .int .i64 7] w' fun e w'' => e = .returned (bigVal (z, true)) ∧ w'' = w' := by rw [hzz]; exact Hbg.out
        rw [← hzz] at hz
        have Hbg2 := Lib.hid hbg
        have Hz := Lib.hid hz
        have Hzz := Lib.hid hzz
        clear hbg hz hzz
        go_wp2_with fail
        refine Hbg2.out.mono ?_
        rintro e w6 ⟨rfl, rfl⟩
        unfold bigVal
        go_wp2_with fail
        go_ret
        refine ⟨congrArg (fun b => Ending.returned (Value.bool b)) ?_, B5⟩
        have h1 := Hz.out
        have h2 := Hzz.out
        first
          | exact beq_iff_eq.2 h1.symm
          | (rw [beq_iff_eq]; omega)
      · have hz : IntKind.u64.wrap ((u : Int) * 1) / 1 = ((u % 18446744073709551616 : Nat) : Int) := by rw [IntKind.wrap_u64]; omega
        obtain ⟨z, hzz⟩ : ∃ z, z = u % 18446744073709551616 := ⟨_, rfl⟩
        have hbg : Calls Try.prog 46 #[.slice Ax mx mx, .int .i64 (n : Int), .int .i64 8] w' fun e w'' => e = .returned (bigVal (z, true)) ∧ w'' = w' := by rw [hzz]; exact Hbg.out
        rw [← hzz] at hz
        have Hbg2 := Lib.hid hbg
        have Hz := Lib.hid hz
        have Hzz := Lib.hid hzz
        clear hbg hz hzz
        go_wp2_with fail
        refine Hbg2.out.mono ?_
        rintro e w6 ⟨rfl, rfl⟩
        unfold bigVal
        go_wp2_with fail
        go_ret
        refine ⟨congrArg (fun b => Ending.returned (Value.bool b)) ?_, B5⟩
        have h1 := Hz.out
        have h2 := Hzz.out
        first
          | exact beq_iff_eq.2 h1.symm
          | (rw [beq_iff_eq]; omega)
    · have hno := Hno.out (by omega)
      have hm := Hmx2.out
      rw [hno, Hlen.out] at hm
      subst hm
      clear hno
      have hk81 : decide (k < 1) = true ∨ (decide (k < 1) = false ∧ decide (8 < k) = true) := by
        by_cases h1 : k < 1
        · exact .inl (decide_eq_true h1)
        · exact .inr ⟨decide_eq_false h1, decide_eq_true (by omega)⟩
      rcases hk81 with h1 | ⟨h1, h2⟩
      all_goals go_wp2_with fail
      all_goals go_ret
      all_goals exact ⟨by first | rfl | simp, B5⟩
  · clear hlen hbs
    obtain ⟨k1, k2⟩ := hk
    go_enter Try.func12, Try.ntmps12
    go_wp2_with fail
    refine (known1 _).mono ?_
    rintro e w1 ⟨rfl, hb1⟩
    go_wp2_with fail
    go_ret
    exact ⟨rfl, hb1⟩
end Go.Proofs.Ytepkboilfgmkkaa
