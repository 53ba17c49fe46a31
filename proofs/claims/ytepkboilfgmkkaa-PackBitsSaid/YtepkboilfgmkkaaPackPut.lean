/- pack.Put: what it puts. -/
import Derived.Test.YtepkboilfgmkkaaClone
import Derived.Test.YtepkboilfgmkkaaPackMath
import Derived.Test.YtepkboilfgmkkaaBits
import Derived.Deep.DeepCutAuto
namespace Go.Proofs.Ytepkboilfgmkkaa
open Go.RowKit
open PackMath

/-- What stands between two turns of the packing, N bits put. -/
structure PutInv (w : World) (n : Nat) (bs ls : List Nat) (width N : Nat) (v ro : Value) (wr : World) : Prop where
  room : ro = .int .i64 ((roomOf N : Nat) : Int)
  own : wr.ownsRow w.heap.size 5 1 v (n + nbytes N) (nats .u8 (bs ++ pkd ls width N))
  bel : Below w.heap.size w wr

/-- In the middle of a turn: there is room in the last byte. -/
structure PutMid (w : World) (n : Nat) (bs ls : List Nat) (width N : Nat) (v ro : Value) (wr : World) : Prop where
  room : ro = .int .i64 ((8 * (N / 8 + 1) - N : Nat) : Int)
  own : wr.ownsRow w.heap.size 5 1 v (n + N / 8 + 1) (nats .u8 (bs ++ bytesOf (upTo (bitOf ls width) N) (N / 8 + 1)))
  bel : Below w.heap.size w wr

theorem put_close {w wc : World} {n : Nat} {bs ls : List Nat} {width N x L q r p g cap j la kd i m : Nat} (hbs : bs.length = n) (hown : wc.ownsRow w.heap.size 5 1 (.slice (some ⟨g, 0, none⟩) (j + 1) cap) (j + 1) (nats .u8 (bs ++ bytesOf (upTo (bitOf ls width) N) (N / 8 + 1))))
    (hbel : Below w.heap.size w wc) (hgB : w.heap.size ≤ g) (hN : i * width + m = N) (hi : i < ls.length) (hx : ls.getD i 0 = x) (hL : width - m = L) (hr : 8 * (N / 8 + 1) - N = r) (hm : m < width)
    (hq0 : 0 < q) (hqL : q ≤ L) (hqr : q ≤ r) (hp : x / 2 ^ (L - q) % 2 ^ q = p) (hj : n + N / 8 = j) (hla : (bytesOf (upTo (bitOf ls width) N) (N / 8 + 1)).getD (N / 8) 0 = la) :
    PutInv w n bs ls width (i * width + (m + q)) (.slice (some ⟨g, 0, none⟩) (j + 1) cap) (.int .i64 ((r : Int) - (q : Int))) ((wc.drewN (kd + 1)).setCell ⟨g, j, none⟩ (.int .u8 (bits .or .u8 (la : Int) ((p : Int) * 2 ^ (r - q) % 256)))) := by
  have hNq : i * width + (m + q) = N + q := by omega
  have hnb : nbytes (N + q) = N / 8 + 1 := by unfold nbytes; omega
  have hr8 : r ≤ 8 := by omega
  have hla8 : la < 256 := by
    rw [← hla, bytesOf_getD _ _ _ (by omega)]
    exact numOf_lt 8 _
  have hpq : p < 2 ^ q := by rw [← hp]; exact Nat.mod_lt _ (Nat.two_pow_pos q)
  have hpr : p * 2 ^ (r - q) < 256 := by
    have h1 : p * 2 ^ (r - q) < 2 ^ q * 2 ^ (r - q) := Nat.mul_lt_mul_of_pos_right hpq (Nat.two_pow_pos _)
    rw [← Nat.pow_add, show q + (r - q) = r from by omega] at h1
    have h2 : 2 ^ r ≤ 2 ^ 8 := Nat.pow_le_pow_right (by decide) hr8
    omega
  have hor : bits .or .u8 (la : Int) ((p : Int) * 2 ^ (r - q) % 256) = ((la ||| p * 2 ^ (r - q) : Nat) : Int) := by
    have e : ((p : Int) * 2 ^ (r - q) % 256) = ((p * 2 ^ (r - q) : Nat) : Int) := by
      have : ((p : Int) * 2 ^ (r - q)) = ((p * 2 ^ (r - q) : Nat) : Int) := by simp
      rw [this]; omega
    rw [e, bits_or_u8 _ _ hla8 hpr]
  rw [hNq, hor]
  refine ⟨?_, ?_, ?_⟩
  · have : roomOf (N + q) = r - q := by unfold roomOf; rw [hnb]; omega
    rw [this]
    congr 1
    omega
  · have h1 := (hown.stored j (.int .u8 ((la ||| p * 2 ^ (r - q) : Nat) : Int))).1
    have h2 : (nats .u8 (bs ++ bytesOf (upTo (bitOf ls width) N) (N / 8 + 1))).set j (.int .u8 ((la ||| p * 2 ^ (r - q) : Nat) : Int)) = nats .u8 (bs ++ pkd ls width (N + q)) := by
      rw [nats_set, List.set_append_right _ _ (by omega), show j - bs.length = N / 8 from by omega]
      unfold pkd
      rw [hnb, bytesOf_more _ N q (N / 8) (by omega) (by omega), hla]
      have hpart := part_eq ls width i L q hi (by omega) hqL (by omega)
      rw [show i * width + (width - L) = N from by omega, hx, hp] at hpart
      rw [hpart, show 8 * (N / 8 + 1) - N - q = r - q from by omega]
    rw [h2] at h1
    rw [hnb, ← Nat.add_assoc, hj]
    exact h1
  · exact Below.setCell (w := wc.drewN (kd + 1)) ⟨hbel.os, hbel.tape, hbel.output, hbel.size, hbel.block⟩ hgB _

set_option maxHeartbeats 800000 in
theorem put_ok (A : Option Addr) (n c : Nat) (bs : List Nat) (A2 : Option Addr) (n2 c2 : Nat) (ls : List Nat) (width : Nat) (w : World) (hb : Sl w A n c (nats .u8 bs)) (hl : Sl w A2 n2 c2 (nats .u64 ls))
    (hls : ∀ x ∈ ls, x < 18446744073709551616) (hw : width ≤ 64) (hsz : n + 8 * n2 ≤ 100000000000000) :
    Calls Try.prog 20 #[.slice A n c, .slice A2 n2 c2, .int .i64 (width : Int)] w fun e w' => ∃ A' m c', e = .returned (.slice A' m c') ∧ Sl w' A' m c' (nats .u8 (bs ++ putSpec ls width)) ∧ Below w.heap.size w w' := by
  have hw0 : (0 : Int) ≤ (width : Int) := by omega
  have hw1 : (width : Int) ≤ 64 := by omega
  have hn2 : n2 ≤ 9223372036854775807 := by omega
  have Hbs : Hid (bs.length = n) := by have := hb.len; rw [nats_length] at this; exact this
  go_enter Try.func20, Try.ntmps20
  go_wp2_with (go_at_call 51; refine (clone_u8 _ _ _ _ _ hb (by omega)).mono ?_; rintro e w1 ⟨v, rfl, hown, hb1⟩)
  go_loopw [7, 8, 25] (fun v ro ix wr => ∃ i : Nat, i ≤ n2 ∧ ix = .int .i64 (i : Int) ∧ PutInv w n bs ls width (i * width) v ro wr) (fun _ _ ix _ => n2 - (intOf ix).toNat)
  case atStart => exact ⟨0, Nat.zero_le _, rfl, by simp [roomOf, nbytes], by simpa [pkd, nbytes, bytesOf] using hown, hb1⟩
  case round =>
    obtain ⟨i, hi, rfl, rfl, hown, hbel⟩ := hrel
    by_cases hlt : i < n2
    · obtain ⟨b, off, rfl, hbw, hcell⟩ := hl.at_ (by omega)
      have hlen := hl.len
      rw [nats_length] at hlen
      have hc : wr.cell? ⟨b, off + i, none⟩ = some (.int .u64 ((ls.getD i 0 : Nat) : Int)) := by
        rw [hbel.cell (p := ⟨b, off + i, none⟩) hbw, hcell i hlt, nats_getD _ _ _ (by omega)]
      have hx64 : ls.getD i 0 < 18446744073709551616 := by
        rw [getD_eq _ _ (by omega)]; exact hls _ (List.getElem_mem _)
      generalize hx : ls.getD i 0 = x at hc hx64
      have Hx := Lib.hid hx
      clear hx hcell hl
      have Hlen := Lib.hid hlen
      clear hlen
      go_wp2
      go_loopw [7, 8, 11] (fun v ro le wq => ∃ m : Nat, m ≤ width ∧ le = .int .i64 ((width - m : Nat) : Int) ∧ PutInv w n bs ls width (i * width + m) v ro wq) (fun _ _ le _ => (intOf le).toNat)
      case atStart => exact ⟨0, Nat.zero_le _, rfl, rfl, hown, hbel⟩
      case round =>
        obtain ⟨m, hm, rfl, rfl, hown1, hbel1⟩ := hrel
        by_cases hlm : m < width
        · have hNb : i * width + m ≤ 64 * n2 := by
            have h1 : (i + 1) * width ≤ n2 * width := Nat.mul_le_mul_right _ hlt
            have h2 : n2 * width ≤ n2 * 64 := Nat.mul_le_mul_left _ hw
            rw [Nat.add_mul, Nat.one_mul] at h1
            omega
          generalize hN : i * width + m = N at *
          have HN := Lib.hid hN
          clear hN
          go_upto_if 33 with (fail)
          go_cut [7, 8] (fun v ro wx => PutMid w n bs ls width N v ro wx)
          case first =>
            by_cases hr0 : N % 8 = 0
            · have e1 : roomOf N = 0 := by unfold roomOf nbytes; omega
              have e2 : (((roomOf N : Nat) : Int) == 0) = true := by rw [e1]; rfl
              have e3 : nbytes N = N / 8 := by unfold nbytes; omega
              have hown3 : (wr.alloc (.cells #[.int .u8 0] 5)).ownsRow w.heap.size 5 1 _ (n + nbytes N) (nats .u8 (bs ++ pkd ls width N)) := hown1.alloc _
              have hlz := hown1.1
              obtain ⟨i0, hi, hz0, hz1, hz2⟩ := info_parts Try.info5
              have hBs := hbel1.size
              have E1 := Lib.hid e1
              have E3 := Lib.hid e3
              have Hlz := Lib.hid hlz
              clear e1 e3 hlz
              go_wp2_with (at_builtin; refine wpList_append_sl rfl _ _ 22 rfl w.heap.size 5 i0 (.int .u8 0) 1 Try.underlying22 hi hz0 hz1 hz2 rfl _ _ _ rfl hown3 _ 1 1 _ rfl (Sl.one_new wr (.int .u8 0) 5 rfl) ?c1 ?c2 ?c3 ?_)
              case c1 => have := E3.out; unfold maxLen; omega
              case c2 => have := E3.out; omega
              case c3 => simp; omega
              intro v' w' h1 h2 _ _
              go_wp2_with fail
              go_meet
              case rel =>
                refine ⟨?_, ?_, hbel1.alloc hbel1.size _ |>.trans h2⟩
                · have : 8 * (N / 8 + 1) - N = 8 := by omega
                  rw [this]; rfl
                · have h3 := h1
                  unfold pkd at h3
                  rw [E3.out, show ([Value.int .u8 0] : List Value) = nats .u8 [0] from rfl, ← nats_append, List.append_assoc, ← bytesOf_nought _ _ _ (by omega)] at h3
                  exact h3
            · have e1 : 8 * (N / 8 + 1) - N = roomOf N := by unfold roomOf nbytes; omega
              have e2 : (((roomOf N : Nat) : Int) == 0) = false := beq_eq_false_iff_ne.2 (by unfold roomOf nbytes; omega)
              have e3 : nbytes N = N / 8 + 1 := by unfold nbytes; omega
              have E1 := Lib.hid e1
              have E3 := Lib.hid e3
              clear e1 e3
              go_wp2_with fail
              go_meet
              case rel => exact ⟨by rw [E1.out], by have := hown1; unfold pkd at this; rw [E3.out, ← Nat.add_assoc] at this; exact this, hbel1⟩
          case rest =>
            obtain ⟨rfl, hown2, hbel2⟩ := hcut
            obtain ⟨g, cap, rfl, hgB, hgs⟩ := hown2.form (by omega)
            have hL0 : 0 < width - m := by omega
            have hL1 : width - m ≤ 64 := by omega
            have hr0 : 0 < 8 * (N / 8 + 1) - N := by omega
            have hr1 : 8 * (N / 8 + 1) - N ≤ 8 := by omega
            generalize hL : width - m = L at *
            generalize hr : 8 * (N / 8 + 1) - N = r at *
            have HL := Lib.hid hL
            have Hr := Lib.hid hr
            clear hL hr
            obtain ⟨q, hq⟩ : ∃ q, q = min L r := ⟨_, rfl⟩
            go_upto_region 12 with (fail)
            go_cut [12] (fun qv wx => qv = .int .i64 (q : Int) ∧ wx = wc)
            case first =>
              by_cases hlt : r < L
              · have e : q = r := by omega
                have E := Lib.hid e
                clear e hq
                go_wp2_with fail
                go_meet
                case rel => exact ⟨by rw [E.out], rfl⟩
              · have e : q = L := by omega
                have E := Lib.hid e
                clear e hq
                go_wp2_with fail
                go_meet
                case rel => exact ⟨by rw [E.out], rfl⟩
            case rest =>
              obtain ⟨rfl, rfl⟩ := hcut
              have hq0 : 0 < q := by omega
              have hqL : q ≤ L := by omega
              have hqr : q ≤ r := by omega
              clear hq
              go_upto_region 13 with (fail)
              go_cut [13] (fun pv wx => pv = .int .u8 ((x / 2 ^ (L - q) % 2 ^ q : Nat) : Int) ∧ ∃ k, wx = wc.drewN k)
              case first =>
                go_quiet (fail)
                go_wp2_with fail
                go_meet
                case rel => exact ⟨by rw [part_u64 _ _ _ hx64 (by omega)], _, rfl⟩
              case rest =>
                obtain ⟨rfl, kd, rfl⟩ := hcut
                have hp : x / 2 ^ (L - q) % 2 ^ q < 2 ^ q := Nat.mod_lt _ (Nat.two_pow_pos q)
                generalize hpe : x / 2 ^ (L - q) % 2 ^ q = p at *
                have Hpe := Lib.hid hpe
                clear hpe
                have hjb : n + N / 8 ≤ 200000000000000 := by omega
                generalize hj : n + N / 8 = j at *
                have Hj := Lib.hid hj
                clear hj
                have hcx : ∀ W : World, (∀ a, W.cell? a = wc.cell? a) → W.cell? ⟨g, j, none⟩ = some (.int .u8 (((bytesOf (upTo (bitOf ls width) N) (N / 8 + 1)).getD (N / 8) 0 : Nat) : Int)) := by
                  intro W hW
                  have h3 := hown2.cellAt j (by omega)
                  rw [hW, h3]
                  have h4 := Hbs.out
                  have h5 := Hj.out
                  rw [nats, List.getElem?_map, List.getElem?_append_right (by omega), show j - bs.length = N / 8 from by omega, List.getElem?_eq_getElem (by rw [bytesOf_length]; omega), Option.map_some, bytesOf_getElem, bytesOf_getD _ _ _ (by omega)]
                generalize hla : (bytesOf (upTo (bitOf ls width) N) (N / 8 + 1)).getD (N / 8) 0 = la at hcx
                have hfx : (wc.drewN (kd + 1)).frozen? ⟨g, j, none⟩ = false := hown2.frozenAt j
                have hcx' : (wc.drewN (kd + 1)).cell? ⟨g, j, none⟩ = some (.int .u8 (la : Int)) := hcx _ (fun _ => rfl)
                have hwj : IntKind.i64.wrap (j : Int) = j := IntWalk.i64_in _ (by omega)
                have hj0 : (0 : Int) ≤ (j : Int) := by omega
                clear hcx
                have Hla := Lib.hid hla
                clear hla
                go_upto_region 14 with (fail)
                go_region
                all_goals go_wp2_with fail
                all_goals
                  refine ⟨⟨m + q, ?_, ?_, put_close Hbs.out hown2 hbel2 hgB HN.out (by rw [Hlen.out]; exact hlt) Hx.out HL.out Hr.out hlm hq0 hqL hqr Hpe.out Hj.out Hla.out⟩, ?_⟩
                  · have := HL.out; omega
                  · have := HL.out
                    have e : ((L : Int) - (q : Int)) = ((width - (m + q) : Nat) : Int) := by omega
                    rw [e]
                  · have := HL.out
                    simp only [intOf]
                    omega
        · have hmw : m = width := by omega
          have HM := Lib.hid hmw
          clear hmw
          go_wp2_with fail
          have e := HM.out
          have e1 : (i + 1) * width = i * width + m := by rw [Nat.add_mul, Nat.one_mul, e]
          refine ⟨⟨i + 1, by omega, by go_num, ⟨by rw [e1], by rw [e1]; exact hown1, hbel1⟩⟩, by simp only [intOf]; omega⟩
    · have hlen := hl.len
      rw [nats_length] at hlen
      have hin : i = ls.length := by omega
      have Hlen := Lib.hid hin
      clear hlen hin
      go_wp2_with fail
      obtain ⟨A', c', rfl, hs⟩ := Sl.of_own hown (nats_one _ _)
      refine (clip_u8 _ _ _ _ _ hs).mono ?_
      rintro e w' ⟨rfl, hs', rfl⟩
      go_wp2
      go_ret
      refine ⟨_, _, _, rfl, ?_, hbel⟩
      have e := Hlen.out
      have e1 : pkd ls width (i * width) = putSpec ls width := by unfold pkd putSpec; rw [e, upTo_all]
      rw [← e1]
      exact hs'
end Go.Proofs.Ytepkboilfgmkkaa
