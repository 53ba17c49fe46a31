/- The reference's Put: what it puts. -/
import Derived.Test.YtehcbgnoiogncaaPackMath
import Derived.Test.YtehcbgnoiogncaaBits
import Derived.Deep.DeepCutAuto
namespace Go.Proofs.Ytehcbgnoiogncaa
open Go.RowKit
open PackMath
set_option linter.unusedVariables false

structure RPut (w : World) (n : Nat) (bs ls : List Nat) (width N : Nat) (v nv : Value) (wr : World) : Prop where
  nv : nv = .int .i64 (N : Int)
  own : wr.ownsRow w.heap.size 5 1 v (n + nbytes N) (nats .u8 (bs ++ pkd ls width N))
  bel : Below w.heap.size w wr

structure RMid (w : World) (n : Nat) (bs ls : List Nat) (width N : Nat) (v : Value) (wr : World) : Prop where
  own : wr.ownsRow w.heap.size 5 1 v (n + N / 8 + 1) (nats .u8 (bs ++ bytesOf (upTo (bitOf ls width) N) (N / 8 + 1)))
  bel : Below w.heap.size w wr

theorem RMid.no {w wr : World} {n : Nat} {bs ls : List Nat} {width N : Nat} {v : Value} (h : RMid w n bs ls width N v wr) (hb : bitOf ls width N = false) : RPut w n bs ls width (N + 1) v (.int .i64 ((N : Int) + 1)) wr := by
  have hnb : nbytes (N + 1) = N / 8 + 1 := by unfold nbytes; omega
  refine ⟨by congr 1, ?_, h.bel⟩
  have e : bytesOf (upTo (bitOf ls width) (N + 1)) (N / 8 + 1) = bytesOf (upTo (bitOf ls width) N) (N / 8 + 1) := by
    unfold bytesOf
    refine List.map_congr_left fun j _ => numOf_congr _ _ _ fun t _ => ?_
    unfold upTo
    by_cases hN : 8 * j + t = N
    · rw [hN, hb]; simp
    · by_cases hlt : 8 * j + t < N
      · rw [decide_eq_true hlt, decide_eq_true (by omega)]
      · rw [decide_eq_false hlt, decide_eq_false (by omega)]
  unfold pkd
  rw [hnb, e, ← Nat.add_assoc]
  exact h.own

theorem RMid.yes {w wr : World} {n : Nat} {bs ls : List Nat} {width N g cap j la : Nat} (hbs : bs.length = n) (h : RMid w n bs ls width N (.slice (some ⟨g, 0, none⟩) (j + 1) cap) wr) (hgB : w.heap.size ≤ g) (hj : n + N / 8 = j)
    (hb : bitOf ls width N = true) (hla : (bytesOf (upTo (bitOf ls width) N) (N / 8 + 1)).getD (N / 8) 0 = la) :
    RPut w n bs ls width (N + 1) (.slice (some ⟨g, 0, none⟩) (j + 1) cap) (.int .i64 ((N : Int) + 1)) (wr.setCell ⟨g, j, none⟩ (.int .u8 (bits .or .u8 (la : Int) (128 / 2 ^ (N % 8))))) := by
  have hnb : nbytes (N + 1) = N / 8 + 1 := by unfold nbytes; omega
  have hla8 : la < 256 := by
    rw [← hla, bytesOf_getD _ _ _ (by omega)]
    exact numOf_lt 8 _
  have e128 : (128 : Int) / 2 ^ (N % 8) = ((2 ^ (8 * (N / 8 + 1) - N - 1) : Nat) : Int) := by
    have h8 : N % 8 < 8 := Nat.mod_lt _ (by decide)
    have e : 8 * (N / 8 + 1) - N - 1 = 7 - N % 8 := by omega
    rw [e]
    generalize N % 8 = o at h8
    match o, h8 with
    | 0, _ => rfl
    | 1, _ => rfl
    | 2, _ => rfl
    | 3, _ => rfl
    | 4, _ => rfl
    | 5, _ => rfl
    | 6, _ => rfl
    | 7, _ => rfl
  have h256 : 2 ^ (8 * (N / 8 + 1) - N - 1) < 256 := Nat.lt_of_lt_of_le (Nat.pow_lt_pow_right (by decide) (show 8 * (N / 8 + 1) - N - 1 < 8 from by omega)) (by decide)
  rw [e128, bits_or_u8 _ _ hla8 h256]
  refine ⟨by congr 1, ?_, h.bel.setCell hgB _⟩
  have hown := h.own
  rw [hj] at hown
  have h1 := (hown.stored j (.int .u8 ((la ||| 2 ^ (8 * (N / 8 + 1) - N - 1) : Nat) : Int))).1
  have h2 : (nats .u8 (bs ++ bytesOf (upTo (bitOf ls width) N) (N / 8 + 1))).set j (.int .u8 ((la ||| 2 ^ (8 * (N / 8 + 1) - N - 1) : Nat) : Int)) = nats .u8 (bs ++ pkd ls width (N + 1)) := by
    rw [nats_set, List.set_append_right _ _ (by omega), show j - bs.length = N / 8 from by omega]
    unfold pkd
    rw [hnb, bytesOf_more _ N 1 (N / 8) (by omega) (by omega), hla]
    have : numOf 1 (fun t => bitOf ls width (N + t)) = 1 := by simp [numOf, hb]
    rw [this, Nat.one_mul]
  rw [h2] at h1
  rw [hnb, ← Nat.add_assoc, hj]
  exact h1

set_option maxHeartbeats 1600000 in
theorem rput_own (A : Option Addr) (n c : Nat) (bs : List Nat) (A2 : Option Addr) (n2 c2 : Nat) (ls : List Nat) (width : Nat) (w : World) (hb : Sl w A n c (nats .u8 bs)) (hl : Sl w A2 n2 c2 (nats .u64 ls))
    (hls : ∀ x ∈ ls, x < 18446744073709551616) (hw : width ≤ 64) (hsz : n + 8 * n2 ≤ 100000000000000) :
    Calls Try.prog 14 #[.slice A n c, .slice A2 n2 c2, .int .i64 (width : Int)] w fun e w' => ∃ v', e = .returned v' ∧ w'.ownsRow w.heap.size 5 1 v' (n + (putSpec ls width).length) (nats .u8 (bs ++ putSpec ls width)) ∧ Below w.heap.size w w' := by
  have hw0 : (0 : Int) ≤ (width : Int) := by omega
  have hw1 : (width : Int) ≤ 64 := by omega
  have hn2 : n2 ≤ 9223372036854775807 := by omega
  have Hbs : Hid (bs.length = n) := by have := hb.len; rw [nats_length] at this; exact this
  have hs : Sl (w.alloc (.cells #[] 5)) A n c (nats .u8 bs) := hb.keep ((Below.refl _ _).alloc (Nat.le_refl _) _)
  have ho : (w.alloc (.cells #[] 5)).ownsRow w.heap.size 5 1 (.slice (some ⟨w.heap.size, 0, none⟩) 0 0) 0 [] := World.ownsRow_made w #[] 0 (Nat.le_refl _) (by decide) rfl
  obtain ⟨i0, hi, hz0, hz1, hz2⟩ := info_parts Try.info5
  go_enter Try.func14, Try.ntmps14
  go_wp2_with (at_builtin; refine wpList_append_sl rfl _ _ 29 rfl w.heap.size 5 i0 (.int .u8 0) 1 Try.underlying29 hi hz0 hz1 hz2 rfl _ 0 [] rfl ho _ n c _ rfl hs ?c1 ?c2 ?c3 ?_)
  case c1 => unfold maxLen; omega
  case c2 => omega
  case c3 => simp
  intro v w1 hown hb2 _ _
  have hb1 : Below w.heap.size w w1 := ((Below.refl _ _).alloc (Nat.le_refl _) _).trans hb2
  clear hs ho hb2
  go_wp2_with fail
  go_loopw [7, 8, 9] (fun v nv ix wr => ∃ i : Nat, i ≤ n2 ∧ ix = .int .i64 (i : Int) ∧ RPut w n bs ls width (i * width) v nv wr) (fun _ _ ix _ => n2 - (intOf ix).toNat)
  case atStart => exact ⟨0, Nat.zero_le _, rfl, by simp, by simpa [pkd, nbytes, bytesOf] using hown, hb1⟩
  case round =>
    obtain ⟨i, hi', rfl, rfl, hown1, hbel1⟩ := hrel
    by_cases hlt : i < n2
    · obtain ⟨b, off, rfl, hbw, hcell⟩ := hl.at_ (by omega)
      have hlen := hl.len
      rw [nats_length] at hlen
      have hcl := hcell i hlt
      rw [nats_getD _ _ _ (by omega)] at hcl
      have hx64 : ls.getD i 0 < 18446744073709551616 := by
        rw [getD_eq _ _ (by omega)]; exact hls _ (List.getElem_mem _)
      have Hbit := Lib.hid (fun m => bit_at ls width i m (by omega))
      generalize hx : ls.getD i 0 = x at *
      have Hlen := Lib.hid hlen
      clear hx hcell hl hlen
      go_wp2_with fail
      go_loopw [7, 8, 10] (fun v nv kv wq => ∃ m : Nat, m ≤ width ∧ kv = .int .i64 ((width : Int) - 1 - (m : Int)) ∧ RPut w n bs ls width (i * width + m) v nv wq) (fun _ _ kv _ => (intOf kv + 1).toNat)
      case atStart => exact ⟨0, Nat.zero_le _, congrArg (Value.int .i64) (by omega), rfl, hown1, hbel1⟩
      case round =>
        obtain ⟨m, hm, rfl, rfl, hown2, hbel2⟩ := hrel
        by_cases hlm : m < width
        · have hNb : i * width + m ≤ 64 * n2 := by
            have h1 : (i + 1) * width ≤ n2 * width := Nat.mul_le_mul_right _ hlt
            have h2 : n2 * width ≤ n2 * 64 := Nat.mul_le_mul_left _ hw
            rw [Nat.add_mul, Nat.one_mul] at h1
            omega
          have hbit := Hbit.out m hlm
          generalize hN : i * width + m = N at *
          have HN := Lib.hid hN
          clear hN
          obtain ⟨k, hk⟩ : ∃ k, k = width - 1 - m := ⟨_, rfl⟩
          have ek : ((width : Int) - 1 - (m : Int)) = (k : Int) := by omega
          rw [← hk] at hbit
          rw [ek]
          have Hbn := Lib.hid hbit
          have Hk := Lib.hid hk
          clear hbit ek hk
          go_upto_if 35 with (fail)
          go_cut [7] (fun v wx => RMid w n bs ls width N v wx)
          case first =>
            by_cases hr0 : N % 8 = 0
            · have e3 : nbytes N = N / 8 := by unfold nbytes; omega
              have hown3 : ∀ z, (wr.alloc z).ownsRow w.heap.size 5 1 _ (n + nbytes N) (nats .u8 (bs ++ pkd ls width N)) := fun z => hown2.alloc z
              have E3 := Lib.hid e3
              have hBs := hbel2.size
              have hri : ((N : Int) % 8 == 0) = true := by rw [beq_iff_eq]; omega
              have Hr := Lib.hid hr0
              clear e3 hr0
              go_wp2_with (at_builtin; refine wpList_append_sl rfl _ _ 29 rfl w.heap.size 5 i0 (.int .u8 0) 1 Try.underlying29 hi hz0 hz1 hz2 rfl _ _ _ rfl (hown3 _) _ 1 1 _ rfl (Sl.one_new wr (.int .u8 0) 5 rfl) ?d1 ?d2 ?d3 ?_)
              case d1 => have := E3.out; unfold maxLen; omega
              case d2 => have := E3.out; omega
              case d3 => simp; omega
              intro v' w' h1 h2 _ _
              go_wp2_with fail
              go_meet
              case rel =>
                refine ⟨?_, (hbel2.alloc hbel2.size _).trans h2⟩
                have h3 := h1
                have h4 := Hr.out
                unfold pkd at h3
                rw [E3.out, show ([Value.int .u8 0] : List Value) = nats .u8 [0] from rfl, ← nats_append, List.append_assoc, ← bytesOf_nought _ _ _ (by omega)] at h3
                exact h3
            · have e3 : nbytes N = N / 8 + 1 := by unfold nbytes; omega
              have hri : ((N : Int) % 8 == 0) = false := beq_eq_false_iff_ne.2 (by omega)
              have E3 := Lib.hid e3
              clear e3
              go_wp2_with fail
              go_meet
              case rel => exact ⟨by have := hown2; unfold pkd at this; rw [E3.out, ← Nat.add_assoc] at this; exact this, hbel2⟩
          case rest =>
            have hcl' : wc.cell? ⟨b, off + i, none⟩ = some (.int .u64 (x : Int)) := (hcut.bel.cell (p := ⟨b, off + i, none⟩) hbw).trans hcl
            obtain ⟨g, cap, rfl, hgB, hgs⟩ := hcut.own.form (by omega)
            have hk63 : (k : Int) ≤ 63 := by have := Hk.out; omega
            have hkm := Hk.out
            have Hkm := Lib.hid hkm
            clear hkm
            have hjb : n + N / 8 ≤ 200000000000000 := by omega
            have htest := bit_test_u64 x k hx64
            have hHj : Hid (n + N / 8 = n + N / 8) := rfl
            by_cases hbv : x.testBit k = true
            · rw [hbv] at htest
              have hbo : bitOf ls width N = true := by rw [Hbn.out, hbv]
              have Hbo := Lib.hid hbo
              generalize hj : n + N / 8 = j at *
              have Hj := Lib.hid hj
              clear hj hbo hbv
              have h4 := Hbs.out
              have h5 := Hj.out
              have hc3 := hcut.own
              rw [h5] at hc3
              have hc4 := hc3.cellAt j (by omega)
              rw [nats, List.getElem?_map, List.getElem?_append_right (by omega), show j - bs.length = N / 8 from by omega, List.getElem?_eq_getElem (by rw [bytesOf_length]; omega), Option.map_some, bytesOf_getElem, ← bytesOf_getD _ _ _ (Nat.lt_succ_self _)] at hc4
              generalize hla : (bytesOf (upTo (bitOf ls width) N) (N / 8 + 1)).getD (N / 8) 0 = la at hc4
              have Hla := Lib.hid hla
              have hfx : wc.frozen? ⟨g, j, none⟩ = false := hc3.frozenAt j
              have Hcl := Lib.hid (RMid.yes h4 hcut hgB h5 Hbo.out hla)
              have hj0 : (0 : Int) ≤ (j : Int) := by omega
              clear hla h4 h5 hc3
              go_wp2_with fail
              have h2 := Hkm.out
              have h3 := Hcl.out
              refine ⟨⟨m + 1, by omega, congrArg (Value.int .i64) (by omega), by rw [← Nat.add_assoc, HN.out]; exact h3⟩, by simp only [intOf]; omega⟩
            · have hbf : x.testBit k = false := by simpa using hbv
              rw [hbf] at htest
              have Hno := Lib.hid (hcut.no (by rw [Hbn.out, hbf]))
              clear hbv hbf
              go_wp2_with fail
              have h2 := Hkm.out
              have h3 := Hno.out
              refine ⟨⟨m + 1, by omega, congrArg (Value.int .i64) (by omega), by rw [← Nat.add_assoc, HN.out]; exact h3⟩, by simp only [intOf]; omega⟩
        · have hmw : m = width := by omega
          have HM := Lib.hid hmw
          clear hmw
          go_wp2_with fail
          have e := HM.out
          have e1 : (i + 1) * width = i * width + m := by rw [Nat.add_mul, Nat.one_mul, e]
          refine ⟨⟨i + 1, by omega, by go_num, ⟨by rw [e1], by rw [e1]; exact hown2, hbel2⟩⟩, by simp only [intOf]; omega⟩
    · have hlen := hl.len
      rw [nats_length] at hlen
      have hin : i = ls.length := by omega
      have Hlen := Lib.hid hin
      clear hlen hin
      obtain ⟨A', c', hv, hs⟩ := Sl.of_own hown1 (nats_one _ _)
      subst hv
      have Hown := Lib.hid hown1
      clear hown1
      go_wp2_with fail
      go_ret
      refine ⟨_, rfl, ?_, hbel1⟩
      have e := Hlen.out
      have e1 : pkd ls width (i * width) = putSpec ls width := by unfold pkd putSpec; rw [e, upTo_all]
      have e2 : (putSpec ls width).length = nbytes (i * width) := by unfold putSpec; rw [bytesOf_length, e]
      rw [e2, ← e1]
      exact Hown.out
theorem rput_ok (A : Option Addr) (n c : Nat) (bs : List Nat) (A2 : Option Addr) (n2 c2 : Nat) (ls : List Nat) (width : Nat) (w : World) (hb : Sl w A n c (nats .u8 bs)) (hl : Sl w A2 n2 c2 (nats .u64 ls))
    (hls : ∀ x ∈ ls, x < 18446744073709551616) (hw : width ≤ 64) (hsz : n + 8 * n2 ≤ 100000000000000) :
    Calls Try.prog 14 #[.slice A n c, .slice A2 n2 c2, .int .i64 (width : Int)] w fun e w' => ∃ A' m c', e = .returned (.slice A' m c') ∧ Sl w' A' m c' (nats .u8 (bs ++ putSpec ls width)) ∧ Below w.heap.size w w' := by
  refine (rput_own A n c bs A2 n2 c2 ls width w hb hl hls hw hsz).mono ?_
  rintro e w' ⟨v', rfl, ho, hb'⟩
  obtain ⟨A', c', rfl, hs⟩ := Sl.of_own ho (nats_one _ _)
  exact ⟨A', _, c', rfl, hs, hb'⟩
end Go.Proofs.Ytehcbgnoiogncaa
