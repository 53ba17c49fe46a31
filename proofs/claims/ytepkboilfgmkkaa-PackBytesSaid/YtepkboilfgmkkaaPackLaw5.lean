/- PackBytes: the walk. -/
import Derived.Test.YtepkboilfgmkkaaPackLaw3
import Derived.Test.YtepkboilfgmkkaaPackSame
import Derived.Test.YtepkboilfgmkkaaPackBad
import Derived.Test.YtepkboilfgmkkaaOps2
import Derived.Test.YtepkboilfgmkkaaPackRPut
import Derived.Test.YtepkboilfgmkkaaPackRGet
namespace Go.Proofs.Ytepkboilfgmkkaa
open Go.RowKit
open PackMath
set_option linter.unusedVariables false

theorem nil_list {l : List Nat} (h : nats .u64 l = []) : l = [] := by cases l <;> simp_all [nats]

/-- What Get answers, whatever it is asked. -/
theorem get_all (A : Option Addr) (n c : Nat) (bs : List Nat) (at_ count width : Int) (hbs : ∀ b ∈ bs, b < 256) (hn : n ≤ 600) :
    ∃ xs : List Nat, ∃ nx : Nat, ∃ rn re : Int, nx ≤ 1048576 ∧
      (∀ w : World, Sl w A n c (nats .u8 bs) → Calls Try.prog 17 #[.slice A n c, .int .i64 at_, .int .i64 count, .int .i64 width] w fun e w' => ∃ A' c', e = .returned (.tuple #[.slice A' nx c', .int .i64 rn, .int .i64 re]) ∧ Sl w' A' nx c' (nats .u64 xs) ∧ Below w.heap.size w w') ∧
      (∀ w : World, Sl w A n c (nats .u8 bs) → Calls Try.prog 18 #[.slice A n c, .int .i64 at_, .int .i64 count, .int .i64 width] w fun e w' => ∃ A' c', e = .returned (.tuple #[.slice A' nx c', .int .i64 rn, .int .i64 re]) ∧ Sl w' A' nx c' (nats .u64 xs) ∧ Below w.heap.size w w') := by
  have hE : getE n at_ count width = 1 ∨ getE n at_ count width = 3 ∨ getE n at_ count width = 0 := by
    unfold getE; split
    · exact .inl rfl
    · split
      · exact .inr (.inl rfl)
      · exact .inr (.inr rfl)
  rcases hE with h | h | h
  · refine ⟨[], 0, 0, 1, by decide, fun w hb => ?_, fun w hb => ?_⟩
    · exact (get_bad A n c _ at_ count width w hb (by omega) h).mono fun e w' ⟨he, hw⟩ => ⟨none, 0, he, Sl.none_ _, hw⟩
    · exact (rget_bad A n c _ at_ count width w hb (by omega) h).mono fun e w' ⟨he, hw⟩ => ⟨none, 0, he, Sl.none_ _, hw⟩
  · refine ⟨[], 0, 0, 3, by decide, fun w hb => ?_, fun w hb => ?_⟩
    · exact (get_short A n c _ at_ count width w hb (by omega) h).mono fun e w' ⟨he, hw⟩ => ⟨none, 0, he, Sl.none_ _, hw⟩
    · exact (rget_short A n c _ at_ count width w hb (by omega) h).mono fun e w' ⟨he, hw⟩ => ⟨none, 0, he, Sl.none_ _, hw⟩
  · have hx : (0 ≤ at_ ∧ at_ ≤ (n : Int) ∧ 0 ≤ count ∧ count ≤ 1048576 ∧ 0 ≤ width ∧ width ≤ 64) ∧ bytesF count width ≤ (n : Int) - at_ := by
      unfold getE at h
      split at h
      · simp at h
      · split at h
        · simp at h
        · exact ⟨by omega, by omega⟩
    obtain ⟨⟨h1, h2, h3, h4, h5, h6⟩, h7⟩ := hx
    obtain ⟨a, rfl⟩ := Int.eq_ofNat_of_zero_le h1
    obtain ⟨k, rfl⟩ := Int.eq_ofNat_of_zero_le h3
    obtain ⟨wd, rfl⟩ := Int.eq_ofNat_of_zero_le h5
    refine ⟨getSpec bs (8 * a) k wd, k, bytesF k wd, 0, by omega, fun w hb => ?_, fun w hb => ?_⟩
    · exact get_ok A n c bs a k wd w hb hbs (by omega) (by omega) h7 (by omega)
    · exact rget_ok A n c bs a k wd w hb hbs (by omega) (by omega) h7 (by omega) (by omega)

/-- What Put answers, whatever it is asked. -/
theorem put_all (n n2 : Nat) (bs l : List Nat) (width : Int) (hl : ∀ x ∈ l, x < 18446744073709551616) (hn : n ≤ 600) (hn2 : n2 ≤ 600) :
    ∃ zs : List Nat,
      (∀ A c A2 c2 (w : World), Sl w A n c (nats .u8 bs) → Sl w A2 n2 c2 (nats .u64 l) → Calls Try.prog 20 #[.slice A n c, .slice A2 n2 c2, .int .i64 width] w fun e w' => ∃ A' m c', e = .returned (.slice A' m c') ∧ Sl w' A' m c' (nats .u8 zs) ∧ Below w.heap.size w w') ∧
      (∀ A c A2 c2 (w : World), Sl w A n c (nats .u8 bs) → Sl w A2 n2 c2 (nats .u64 l) → Calls Try.prog 21 #[.slice A n c, .slice A2 n2 c2, .int .i64 width] w fun e w' => ∃ A' m c', e = .returned (.slice A' m c') ∧ Sl w' A' m c' (nats .u8 zs) ∧ Below w.heap.size w w') := by
  by_cases hw : width < 0 ∨ 64 < width
  · exact ⟨bs, fun A c A2 c2 w h1 h2 => put_bad A n c _ A2 n2 c2 width w h1 hw (by omega), fun A c A2 c2 w h1 h2 => rput_bad A n c _ A2 n2 c2 width w h1 hw⟩
  · obtain ⟨wd, rfl⟩ : ∃ wd : Nat, width = (wd : Int) := ⟨width.toNat, by omega⟩
    exact ⟨bs ++ putSpec l wd, fun A c A2 c2 w h1 h2 => put_ok A n c bs A2 n2 c2 l wd w h1 h2 hl (by omega) (by omega), fun A c A2 c2 w h1 h2 => rput_ok A n c bs A2 n2 c2 l wd w h1 h2 hl (by omega) (by omega)⟩

set_option maxHeartbeats 6400000 in
set_option maxRecDepth 100000 in
theorem law_PackBytes (A : Option Addr) (n c : Nat) (bs : List Nat) (at_ count width : Int) (A2 : Option Addr) (n2 c2 : Nat) (l : List Nat) (w : World) (hb0 : Sl w A n c (nats .u8 bs)) (hbs : ∀ x ∈ bs, x < 256)
    (_h1 : -9223372036854775808 ≤ at_ ∧ at_ ≤ 9223372036854775807) (_h2 : -9223372036854775808 ≤ count ∧ count ≤ 9223372036854775807) (_h3 : -9223372036854775808 ≤ width ∧ width ≤ 9223372036854775807)
    (hl0 : Sl w A2 n2 c2 (nats .u64 l)) (hl : ∀ x ∈ l, x < 18446744073709551616) :
    Calls Try.prog 3 #[.slice A n c, .int .i64 at_, .int .i64 count, .int .i64 width, .slice A2 n2 c2] w fun e w' => e = .returned (.bool true) ∧ Below w.heap.size w w' := by
  have hn63 := len_one n c hb0.le hb0.max
  have hn263 := len_one n2 c2 hl0.le hl0.max
  by_cases h1 : 600 < n
  · go_enter Try.func3, Try.ntmps3
    go_wp2_with fail
    refine (known2 _).mono ?_
    rintro e w1 ⟨rfl, hb1⟩
    go_wp2_with fail
    go_ret
    exact ⟨rfl, hb1⟩
  by_cases h2 : 600 < n2
  · go_enter Try.func3, Try.ntmps3
    go_wp2_with fail
    refine (known2 _).mono ?_
    rintro e w1 ⟨rfl, hb1⟩
    go_wp2_with fail
    go_ret
    exact ⟨rfl, hb1⟩
  by_cases h3 : 600 < count ∧ count ≤ 1048576
  · go_enter Try.func3, Try.ntmps3
    go_wp2_with fail
    refine (known2 _).mono ?_
    rintro e w1 ⟨rfl, hb1⟩
    go_wp2_with fail
    go_ret
    exact ⟨rfl, hb1⟩
  obtain ⟨xs, nx, rn, re, hnx0, hget, hrget⟩ := get_all A n c bs at_ count width hbs (by omega)
  obtain ⟨zs, hput, hrput⟩ := put_all n n2 bs l width hl (by omega) (by omega)
  have Hget := Lib.hid hget
  have Hrget := Lib.hid hrget
  have Hput := Lib.hid hput
  have Hrput := Lib.hid hrput
  have Hcnt : ¬ (600 < count) ∨ 1048576 < count := by omega
  have hnx : nx ≤ 100000000000000 := by omega
  clear hget hrget hput hrput hbs hl h3
  obtain ⟨i0, hi, hz0, hz1, hz2⟩ := info_parts Try.info5
  go_enter Try.func3, Try.ntmps3
  go_wp2_with fail
  refine (known2 _).mono ?_
  rintro e w1 ⟨rfl, hb1⟩
  have sb1 := hb0.keep hb1
  have sl1 := hl0.keep hb1
  go_wp2_with fail
  all_goals
    clear Hcnt
    refine (Hget.out _ sb1).mono ?_
    rintro e w2 ⟨Ax, cx, rfl, sx2, hb2⟩
    have sb2 := sb1.keep hb2
    go_wp2_with fail
    refine (Hrget.out _ sb2).mono ?_
    rintro e w3 ⟨Ay, cy, rfl, sy, hb3⟩
    have sx := sx2.keep hb3
    have sb := sb2.keep hb3
    have sl2 := sl1.keep (below_trans' hb2 hb3)
    have B3 := below_trans' (below_trans' hb1 hb2) hb3
    clear sb2 sx2 hb2 hb3
    go_upto_region 7 with fail
    refine region_all _ [Fact.sl nx (nats .u64 xs), Fact.sl nx (nats .u64 xs), Fact.is (.bool true), Fact.is (.bool true), Fact.is (.int .i64 rn), Fact.is (.int .i64 rn), Fact.is (.bool true), Fact.is (.bool true), Fact.is (.bool true), Fact.is (.int .i64 re), Fact.is (.int .i64 re), Fact.is (.bool true), Fact.is (.bool true), Fact.is (.bool true), Fact.emptyRow 5, Fact.sl n (nats .u8 bs), Fact.sl n (nats .u8 bs), Fact.sl n2 (nats .u64 l), Fact.is (.int .i64 width), Fact.sl zs.length (nats .u8 zs), Fact.is (.string (strOf zs)), Fact.sl n (nats .u8 bs), Fact.sl n2 (nats .u64 l), Fact.is (.int .i64 width), Fact.sl zs.length (nats .u8 zs), Fact.is (.string (strOf zs)), Fact.is (.bool true), Fact.is (.bool true), Fact.is (.bool true), Fact.is (.int .i64 count), Fact.is (.int .i64 width), Fact.is (.int .i64 (bytesF count width)), Fact.is (.int .i64 count), Fact.is (.int .i64 width), Fact.is (.int .i64 (bytesF count width)), Fact.is (.bool true), Fact.is (.bool true), Fact.is (.bool true)] [[(11, none)], [(14, none)], [(53, some 0), (54, some 1)], [(55, some 2)], [(12, none)], [(15, none)], [(57, some 4), (58, some 5)], [(56, some 3), (59, some 6)], [(60, some 7)], [(13, none)], [(16, none)], [(62, some 9), (63, some 10)], [(61, some 8), (64, some 11)], [(65, some 12)], [], [(0, none)], [(67, some 14), (68, some 15)], [(4, none)], [(3, none)], [(69, some 16), (70, some 17), (71, some 18)], [(72, some 19)], [(0, none)], [(4, none)], [(3, none)], [(74, some 21), (75, some 22), (76, some 23)], [(77, some 24)], [(73, some 20), (78, some 25)], [(66, some 13), (79, some 26)], [(80, some 27)], [(2, none)], [(3, none)], [(82, some 29), (83, some 30)], [(2, none)], [(3, none)], [(85, some 32), (86, some 33)], [(84, some 31), (87, some 34)], [(81, some 28), (88, some 35)], [(89, some 36)]] [true, true, true, true, true, true, true, true, true, true, true, true, true, true, true, true, true, true, true, true, true, true, true, true, true, true, true, true, true, true, true, true, true, true, true, true, true, true] (by kernel_rfl) (by kernel_rfl) ⟨⟨?_, ?_⟩, ⟨?_, ?_⟩, ⟨?_, ?_⟩, ⟨?_, ?_⟩, ⟨?_, ?_⟩, ⟨?_, ?_⟩, ⟨?_, ?_⟩, ⟨?_, ?_⟩, ⟨?_, ?_⟩, ⟨?_, ?_⟩, ⟨?_, ?_⟩, ⟨?_, ?_⟩, ⟨?_, ?_⟩, ⟨?_, ?_⟩, ⟨?_, ?_⟩, ⟨?_, ?_⟩, ⟨?_, ?_⟩, ⟨?_, ?_⟩, ⟨?_, ?_⟩, ⟨?_, ?_⟩, ⟨?_, ?_⟩, ⟨?_, ?_⟩, ⟨?_, ?_⟩, ⟨?_, ?_⟩, ⟨?_, ?_⟩, ⟨?_, ?_⟩, ⟨?_, ?_⟩, ⟨?_, ?_⟩, ⟨?_, ?_⟩, ⟨?_, ?_⟩, ⟨?_, ?_⟩, ⟨?_, ?_⟩, ⟨?_, ?_⟩, ⟨?_, ?_⟩, ⟨?_, ?_⟩, ⟨?_, ?_⟩, ⟨?_, ?_⟩, ⟨?_, ?_⟩, trivial⟩ ?_
    · intro ρ w' hc hB h11
      refine chain_run rfl ?_
      exact opk_move rfl ⟨Below.refl _ _, ⟨_, _, h11, (sx).keep hB⟩⟩
    · exact rfl
    · intro ρ w' hc hB h14
      refine chain_run rfl ?_
      exact opk_move rfl ⟨Below.refl _ _, ⟨_, _, h14, (sy).keep hB⟩⟩
    · exact rfl
    · intro ρ w' hc hB h53 h54
      refine chain_run rfl ?_
      obtain ⟨A1, c1, e1, s1⟩ := h53
      obtain ⟨A2, c2', e2, s2⟩ := h54
      refine opk_call rfl hc Try.func19 (by kernel_rfl) (by kernel_rfl) ?_
      rw [show (#[Operand.tmp 53, Operand.tmp 54] : Array Operand).map ρ = #[.slice A1 nx c1, .slice A2 nx c2'] from by simp [e1, e2]]
      refine (same_yes A1 A2 nx c1 c2' xs w' s1 s2 hnx).mono ?_
      rintro e w2 ⟨rfl, hb2⟩
      exact ⟨_, rfl, hb2, rfl⟩
    · exact rfl
    · intro ρ w' hc hB h55
      refine chain_run rfl ?_
      exact opk_move rfl ⟨Below.refl _ _, h55⟩
    · exact rfl
    · intro ρ w' hc hB h12
      refine chain_run rfl ?_
      exact opk_move rfl ⟨Below.refl _ _, h12⟩
    · exact fun v w h => ⟨true, h, rfl⟩
    · intro ρ w' hc hB h15
      refine chain_run rfl ?_
      exact opk_move rfl ⟨Below.refl _ _, h15⟩
    · exact fun v w h => ⟨true, h, rfl⟩
    · intro ρ w' hc hB h57 h58
      refine chain_run rfl ?_
      exact opk_eql_int rfl h57 h58 ⟨Below.refl _ _, congrArg Value.bool (by simp)⟩
    · exact fun v w h => ⟨true, h, rfl⟩
    · intro ρ w' hc hB h56 h59
      refine chain_run rfl ?_
      exact opk_pick rfl h56 ⟨Below.refl _ _, h59⟩
    · exact rfl
    · intro ρ w' hc hB h60
      refine chain_run rfl ?_
      exact opk_move rfl ⟨Below.refl _ _, h60⟩
    · exact rfl
    · intro ρ w' hc hB h13
      refine chain_run rfl ?_
      exact opk_move rfl ⟨Below.refl _ _, h13⟩
    · exact fun v w h => ⟨true, h, rfl⟩
    · intro ρ w' hc hB h16
      refine chain_run rfl ?_
      exact opk_move rfl ⟨Below.refl _ _, h16⟩
    · exact fun v w h => ⟨true, h, rfl⟩
    · intro ρ w' hc hB h62 h63
      refine chain_run rfl ?_
      exact opk_eql_int rfl h62 h63 ⟨Below.refl _ _, congrArg Value.bool (by simp)⟩
    · exact fun v w h => ⟨true, h, rfl⟩
    · intro ρ w' hc hB h61 h64
      refine chain_run rfl ?_
      exact opk_pick rfl h61 ⟨Below.refl _ _, h64⟩
    · exact rfl
    · intro ρ w' hc hB h65
      refine chain_run rfl ?_
      exact opk_move rfl ⟨Below.refl _ _, h65⟩
    · exact rfl
    · intro ρ w' hc hB
      refine chain_run rfl ?_
      exact opk_empty Try.underlying22 hi hz0 rfl ⟨below_new _ _, _, rfl, heap_alloc_new _ _⟩
    · exact fun v w h => ⟨true, h, rfl⟩
    · intro ρ w' hc hB h0
      refine chain_run rfl ?_
      exact opk_move rfl ⟨Below.refl _ _, ⟨_, _, h0, (sb).keep hB⟩⟩
    · exact fun v w h => ⟨true, h, rfl⟩
    · intro ρ w' hc hB h67 h68
      refine chain_run rfl ?_
      obtain ⟨g0, e0, hg0⟩ := h67
      obtain ⟨A1, c1, e1, s1⟩ := h68
      exact opk_append0 Try.underlying22 hi hz0 hz1 hz2 rfl e0 e1 s1 (by unfold maxLen; omega) (by omega) (fun v w2 hb2 hs2 => ⟨hb2, hs2⟩)
    · exact fun v w h => ⟨true, h, rfl⟩
    · intro ρ w' hc hB h4
      refine chain_run rfl ?_
      exact opk_move rfl ⟨Below.refl _ _, ⟨_, _, h4, (sl2).keep hB⟩⟩
    · exact fun v w h => ⟨true, h, rfl⟩
    · intro ρ w' hc hB h3
      refine chain_run rfl ?_
      exact opk_move rfl ⟨Below.refl _ _, h3⟩
    · exact fun v w h => ⟨true, h, rfl⟩
    · intro ρ w' hc hB h69 h70 h71
      refine chain_run rfl ?_
      obtain ⟨A1, c1, e1, s1⟩ := h69
      obtain ⟨A2, c2', e2, s2⟩ := h70
      have e3 : ρ (Operand.tmp 71) = .int .i64 width := h71
      refine opk_call rfl hc Try.func20 (by kernel_rfl) (by kernel_rfl) ?_
      rw [show (#[Operand.tmp 69, Operand.tmp 70, Operand.tmp 71] : Array Operand).map ρ = #[.slice A1 n c1, .slice A2 n2 c2', .int .i64 width] from by simp [e1, e2, e3]]
      refine (Hput.out A1 c1 A2 c2' w' s1 s2).mono ?_
      rintro e w2 ⟨A3, m3, c3, rfl, hs3, hb3⟩
      have hm3 : m3 = zs.length := by rw [← hs3.len, nats_length]
      subst hm3
      exact ⟨_, rfl, hb3, _, _, rfl, hs3⟩
    · exact fun v w h => ⟨true, h, rfl⟩
    · intro ρ w' hc hB h72
      refine chain_run rfl ?_
      obtain ⟨A_, c_, e_, s_⟩ := h72
      exact opk_str rfl Try.underlying22 Try.underlying5 Try.underlying9 e_ s_ ⟨Below.refl _ _, rfl⟩
    · exact fun v w h => ⟨true, h, rfl⟩
    · intro ρ w' hc hB h0
      refine chain_run rfl ?_
      exact opk_move rfl ⟨Below.refl _ _, ⟨_, _, h0, (sb).keep hB⟩⟩
    · exact fun v w h => ⟨true, h, rfl⟩
    · intro ρ w' hc hB h4
      refine chain_run rfl ?_
      exact opk_move rfl ⟨Below.refl _ _, ⟨_, _, h4, (sl2).keep hB⟩⟩
    · exact fun v w h => ⟨true, h, rfl⟩
    · intro ρ w' hc hB h3
      refine chain_run rfl ?_
      exact opk_move rfl ⟨Below.refl _ _, h3⟩
    · exact fun v w h => ⟨true, h, rfl⟩
    · intro ρ w' hc hB h74 h75 h76
      refine chain_run rfl ?_
      obtain ⟨A1, c1, e1, s1⟩ := h74
      obtain ⟨A2, c2', e2, s2⟩ := h75
      have e3 : ρ (Operand.tmp 76) = .int .i64 width := h76
      refine opk_call rfl hc Try.func21 (by kernel_rfl) (by kernel_rfl) ?_
      rw [show (#[Operand.tmp 74, Operand.tmp 75, Operand.tmp 76] : Array Operand).map ρ = #[.slice A1 n c1, .slice A2 n2 c2', .int .i64 width] from by simp [e1, e2, e3]]
      refine (Hrput.out A1 c1 A2 c2' w' s1 s2).mono ?_
      rintro e w2 ⟨A3, m3, c3, rfl, hs3, hb3⟩
      have hm3 : m3 = zs.length := by rw [← hs3.len, nats_length]
      subst hm3
      exact ⟨_, rfl, hb3, _, _, rfl, hs3⟩
    · exact fun v w h => ⟨true, h, rfl⟩
    · intro ρ w' hc hB h77
      refine chain_run rfl ?_
      obtain ⟨A_, c_, e_, s_⟩ := h77
      exact opk_str rfl Try.underlying22 Try.underlying5 Try.underlying9 e_ s_ ⟨Below.refl _ _, rfl⟩
    · exact fun v w h => ⟨true, h, rfl⟩
    · intro ρ w' hc hB h73 h78
      refine chain_run rfl ?_
      exact opk_eql_string rfl h73 h78 ⟨Below.refl _ _, congrArg Value.bool (by simp)⟩
    · exact fun v w h => ⟨true, h, rfl⟩
    · intro ρ w' hc hB h66 h79
      refine chain_run rfl ?_
      exact opk_pick rfl h66 ⟨Below.refl _ _, h79⟩
    · exact rfl
    · intro ρ w' hc hB h80
      refine chain_run rfl ?_
      exact opk_move rfl ⟨Below.refl _ _, h80⟩
    · exact rfl
    · intro ρ w' hc hB h2
      refine chain_run rfl ?_
      exact opk_move rfl ⟨Below.refl _ _, h2⟩
    · exact fun v w h => ⟨true, h, rfl⟩
    · intro ρ w' hc hB h3
      refine chain_run rfl ?_
      exact opk_move rfl ⟨Below.refl _ _, h3⟩
    · exact fun v w h => ⟨true, h, rfl⟩
    · intro ρ w' hc hB h82 h83
      refine chain_run rfl ?_
      have e2 : ρ (Operand.tmp 82) = .int .i64 count := h82
      have e3 : ρ (Operand.tmp 83) = .int .i64 width := h83
      refine opk_call rfl hc Try.func22 (by kernel_rfl) (by kernel_rfl) ?_
      rw [show (#[Operand.tmp 82, Operand.tmp 83] : Array Operand).map ρ = #[.int .i64 count, .int .i64 width] from by simp [e2, e3]]
      refine (bytes_p count width w').mono ?_
      rintro e w2 ⟨rfl, rfl⟩
      exact ⟨_, rfl, Below.refl _ _, rfl⟩
    · exact fun v w h => ⟨true, h, rfl⟩
    · intro ρ w' hc hB h2
      refine chain_run rfl ?_
      exact opk_move rfl ⟨Below.refl _ _, h2⟩
    · exact fun v w h => ⟨true, h, rfl⟩
    · intro ρ w' hc hB h3
      refine chain_run rfl ?_
      exact opk_move rfl ⟨Below.refl _ _, h3⟩
    · exact fun v w h => ⟨true, h, rfl⟩
    · intro ρ w' hc hB h85 h86
      refine chain_run rfl ?_
      have e2 : ρ (Operand.tmp 85) = .int .i64 count := h85
      have e3 : ρ (Operand.tmp 86) = .int .i64 width := h86
      refine opk_call rfl hc Try.func23 (by kernel_rfl) (by kernel_rfl) ?_
      rw [show (#[Operand.tmp 85, Operand.tmp 86] : Array Operand).map ρ = #[.int .i64 count, .int .i64 width] from by simp [e2, e3]]
      refine (bytes_r count width w').mono ?_
      rintro e w2 ⟨rfl, rfl⟩
      exact ⟨_, rfl, Below.refl _ _, rfl⟩
    · exact fun v w h => ⟨true, h, rfl⟩
    · intro ρ w' hc hB h84 h87
      refine chain_run rfl ?_
      exact opk_eql_int rfl h84 h87 ⟨Below.refl _ _, congrArg Value.bool (by simp)⟩
    · exact fun v w h => ⟨true, h, rfl⟩
    · intro ρ w' hc hB h81 h88
      refine chain_run rfl ?_
      exact opk_pick rfl h81 ⟨Below.refl _ _, h88⟩
    · exact rfl
    · intro ρ w' hc hB h89
      refine chain_run rfl ?_
      exact opk_assign rfl ⟨Below.refl _ _, h89⟩
    · exact rfl
    intro a' w' hbe hsz hd hF hU
    have h5 : a'.tmps.getD 10 undef = .bool true := hF 37 _ 10 rfl rfl
    go_wp2_with fail
    refine bodyPost_ret (results_tmp rfl _ _ _) hd ?_
    rw [h5]
    exact ⟨rfl, below_trans' B3 hbe⟩
end Go.Proofs.Ytepkboilfgmkkaa
