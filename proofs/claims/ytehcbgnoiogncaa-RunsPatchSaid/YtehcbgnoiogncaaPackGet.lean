/- pack.Get: what it reads. -/
import Derived.Test.YtehcbgnoiogncaaPackMath
import Derived.Test.YtehcbgnoiogncaaBits
import Derived.Deep.DeepCutAuto
import Derived.Test.YtehcbgnoiogncaaPackWid
namespace Go.Proofs.Ytehcbgnoiogncaa
open Go.RowKit
open PackMath
set_option linter.unusedVariables false

structure GetInv (w : World) (bs : List Nat) (base count width i m g : Nat) (bit : Value) (wr : World) : Prop where
  bit : bit = .int .i64 ((i * width + m : Nat) : Int)
  own : wr.ownsRow w.heap.size 26 1 (.slice (some ⟨g, 0, none⟩) count count) count (nats .u64 (gotten bs base count width i m))
  bel : Below w.heap.size w wr

structure GetOut (w : World) (bs : List Nat) (base count width i g : Nat) (bit : Value) (wr : World) : Prop where
  bit : bit = .int .i64 ((i * width : Nat) : Int)
  own : wr.ownsRow w.heap.size 26 1 (.slice (some ⟨g, 0, none⟩) count count) count (nats .u64 (getSpec bs base i width ++ List.replicate (count - i) 0))
  bel : Below w.heap.size w wr

theorem GetOut.begin {w wr : World} {bs : List Nat} {base count width i g : Nat} {bit : Value} (h : GetOut w bs base count width i g bit wr) (hi : i < count) : GetInv w bs base count width i 0 g bit wr := by
  refine ⟨by rw [h.bit]; simp, ?_, h.bel⟩
  have := h.own
  unfold gotten
  rw [show count - i = count - i - 1 + 1 from by omega, List.replicate_succ] at this
  simpa [numOf] using this

theorem GetInv.done {w wr : World} {bs : List Nat} {base count width i m g : Nat} {bit : Value} (h : GetInv w bs base count width i m g bit wr) (hm : m = width) : GetOut w bs base count width (i + 1) g bit wr := by
  subst hm
  refine ⟨by rw [h.bit, Nat.add_mul, Nat.one_mul], ?_, h.bel⟩
  have := h.own
  unfold gotten at this
  rw [getSpec_succ, show count - (i + 1) = count - i - 1 from by omega]
  exact this

theorem get_close {w wc : World} {bs : List Nat} {at_ count width i m g q p x : Nat} (hbs : ∀ b ∈ bs, b < 256) (hi : i < count) (hm : m < width) (hw : width ≤ 64) (hq : m + q ≤ width) (hq8 : (i * width + m) % 8 + q ≤ 8)
    (h : GetInv w bs (8 * at_) count width i m g (.int .i64 ((i * width + m : Nat) : Int)) wc) (hgB : w.heap.size ≤ g)
    (hx : (numOf m fun k => bitAt bs (8 * at_ + i * width + k)) = x) (hp : bs.getD (at_ + (i * width + m) / 8) 0 / 2 ^ (8 - (i * width + m) % 8 - q) % 2 ^ q = p) :
    GetInv w bs (8 * at_) count width i (m + q) g (.int .i64 (((i * width + m : Nat) : Int) + (q : Int))) (wc.setCell ⟨g, i, none⟩ (.int .u64 (bits .or .u64 (IntKind.u64.wrap ((x : Int) * 2 ^ q)) (p : Int)))) := by
  have hx' : x < 2 ^ m := by rw [← hx]; exact numOf_lt _ _
  have hp' : p < 2 ^ q := by rw [← hp]; exact Nat.mod_lt _ (Nat.two_pow_pos q)
  have hxq : x * 2 ^ q < 18446744073709551616 := by
    have h1 : x * 2 ^ q < 2 ^ m * 2 ^ q := Nat.mul_lt_mul_of_pos_right hx' (Nat.two_pow_pos _)
    rw [← Nat.pow_add] at h1
    have h2 : 2 ^ (m + q) ≤ 2 ^ 64 := Nat.pow_le_pow_right (by decide) (by omega)
    omega
  have hp64 : p < 18446744073709551616 := by
    have h2 : 2 ^ q ≤ 2 ^ 64 := Nat.pow_le_pow_right (by decide) (by omega)
    omega
  have e : bits .or .u64 (IntKind.u64.wrap ((x : Int) * 2 ^ q)) (p : Int) = ((x * 2 ^ q ||| p : Nat) : Int) := by
    have e1 : IntKind.u64.wrap ((x : Int) * 2 ^ q) = ((x * 2 ^ q : Nat) : Int) := by
      have : ((x : Int) * 2 ^ q) = ((x * 2 ^ q : Nat) : Int) := by simp
      rw [this, IntKind.wrap_u64]; omega
    rw [e1, bits_or_u64 _ _ hxq hp64]
  have e2 : x * 2 ^ q ||| p = numOf (m + q) fun k => bitAt bs (8 * at_ + i * width + k) := by
    rw [numOf_more, hx]
    have ht := taken_eq bs (8 * at_ + (i * width + m)) q (by omega)
    rw [show (8 * at_ + (i * width + m)) / 8 = at_ + (i * width + m) / 8 from by omega, show (8 * at_ + (i * width + m)) % 8 = (i * width + m) % 8 from by omega, hp] at ht
    rw [← ht]
    congr 1
    refine numOf_congr _ _ _ fun t _ => ?_
    congr 1
    omega
  rw [e, e2]
  refine ⟨?_, ?_, h.bel.setCell hgB _⟩
  · congr 1
    omega
  · have h1 := (h.own.stored i (.int .u64 ((numOf (m + q) (fun k => bitAt bs (8 * at_ + i * width + k)) : Nat) : Int))).1
    rw [nats_set, gotten_set] at h1
    exact h1


set_option maxHeartbeats 1600000 in
theorem get_own (A : Option Addr) (n c : Nat) (bs : List Nat) (at_ count width : Nat) (w : World) (hb : Sl w A n c (nats .u8 bs)) (hbs : ∀ b ∈ bs, b < 256)
    (hw : width ≤ 64) (hc : count ≤ 1048576) (hr : bytesF count width ≤ (n : Int) - at_) (hat : at_ ≤ n) :
    Calls Try.prog 42 #[.slice A n c, .int .i64 (at_ : Int), .int .i64 (count : Int), .int .i64 (width : Int)] w fun e w' =>
      ∃ A' c', e = .returned (.tuple #[.slice A' count c', .int .i64 (bytesF count width), .int .i64 0]) ∧ Sl w' A' count c' (nats .u64 (getSpec bs (8 * at_) count width)) ∧ Below w.heap.size w w' ∧ w'.ownsRow w.heap.size 26 1 (.slice A' count c') count (nats .u64 (getSpec bs (8 * at_) count width)) := by
  have Hlen : Hid (bs.length = n) := by have := hb.len; rw [nats_length] at this; exact this
  have hmax := hb.max
  have hle := hb.le
  unfold maxLen at hmax
  have hcw : count * width ≤ 1048576 * 64 := Nat.le_trans (Nat.mul_le_mul_right _ hc) (Nat.mul_le_mul_left _ hw)
  have hbf : bytesF count width = ((nbytes (count * width) : Nat) : Int) := by
    unfold bytesF nbytes
    rw [if_neg (by omega)]
    have : ((count : Int) * (width : Int)) = ((count * width : Nat) : Int) := by simp
    rw [this]; omega
  have hroom : nbytes (count * width) ≤ n - at_ := by omega
  generalize hbz : bytesF count width = bz at *
  have Hbz := Lib.hid hbz
  have Hbf := Lib.hid hbf
  clear hbz hbf
  have t1 : ¬ ((at_ : Int) < 0) := by omega
  have t2 : (at_ : Int) ≤ (n : Int) := by omega
  have t3 : (0 : Int) ≤ (count : Int) := by omega
  have t4 : (count : Int) ≤ 1048576 := by omega
  have t5 : (0 : Int) ≤ (width : Int) := by omega
  have t6 : (width : Int) ≤ 64 := by omega
  have hby : ∀ W : World, Calls Try.prog 48 #[.int .i64 (count : Int), .int .i64 (width : Int)] W fun e w' => e = .returned (.int .i64 bz) ∧ W = w' := fun W => by rw [← Hbz.out]; exact bytes_p _ _ _
  have Hby := Lib.hid hby
  clear hby
  obtain ⟨i0, hi, hz0, hz1, hz2⟩ := info_parts Try.info26
  go_enter Try.func42, Try.ntmps42
  go_wp2_with (first
    | (go_at_call 48; refine (Hby.out _).mono ?_; rintro e w1 ⟨rfl, rfl⟩)
    | (at_make; refine wpList_make_full _ rfl _ _ 22 rfl w.heap.size 26 i0 (.int .u64 0) 1 Try.underlying22 hi hz0 hz1 .i64 .i64 _ _ count rfl rfl rfl rfl ?b2 ?b3 ?b4 ?_))
  case b2 => rw [hz2]; omega
  case b3 => unfold maxLen; omega
  case b4 => exact Nat.le_refl _
  intro w1 hown hgrow
  rw [toList_madeCells_one, show (Value.int .u64 0) = Value.int .u64 ((0 : Nat) : Int) from rfl, show List.replicate count (Value.int .u64 ((0 : Nat) : Int)) = nats .u64 (List.replicate count 0) from by simp [nats]] at hown
  have hbel : Below w.heap.size w w1 := (Below.refl _ _).grown hgrow (Nat.le_refl _) (fun k hk => by cases hk)
  go_wp2_with fail
  go_loopw [12, 51] (fun bit ix wr => ∃ i : Nat, i ≤ count ∧ ix = .int .i64 (i : Int) ∧ GetOut w bs (8 * at_) count width i w.heap.size bit wr) (fun _ ix _ => count - (intOf ix).toNat)
  case atStart => exact ⟨0, Nat.zero_le _, rfl, by simp, by simpa [getSpec] using hown, hbel⟩
  case round =>
    obtain ⟨i, hi', rfl, hout⟩ := hrel
    by_cases hlt : i < count
    · obtain ⟨rfl, hown1, hbel1⟩ := hout
      have hinv : GetInv w bs (8 * at_) count width i 0 w.heap.size (.int .i64 ((i * width : Nat) : Int)) wr := GetOut.begin ⟨rfl, hown1, hbel1⟩ hlt
      have Hinv := Lib.hid hinv
      clear hinv
      go_wp2_with fail
      go_loopw [12, 14] (fun bit le wq => ∃ m : Nat, m ≤ width ∧ le = .int .i64 ((width - m : Nat) : Int) ∧ GetInv w bs (8 * at_) count width i m w.heap.size bit wq) (fun _ le _ => (intOf le).toNat)
      case atStart => exact ⟨0, Nat.zero_le _, rfl, Hinv.out⟩
      case round =>
        obtain ⟨m, hm, rfl, hinv⟩ := hrel
        by_cases hlm : m < width
        · have hbit := hinv.bit
          subst hbit
          have hNb : i * width + m < count * width := by
            have h1 : (i + 1) * width ≤ count * width := Nat.mul_le_mul_right _ hlt
            rw [Nat.add_mul, Nat.one_mul] at h1
            omega
          have hNat : at_ + (i * width + m) / 8 < n := by unfold nbytes at hroom; omega
          generalize hN : i * width + m = N at *
          have HN := Lib.hid hN
          clear hN
          have hL0 : 0 < width - m := by omega
          generalize hL : width - m = L at *
          have HL := Lib.hid hL
          clear hL
          obtain ⟨q, hq⟩ : ∃ q, q = min L (8 - N % 8) := ⟨_, rfl⟩
          go_upto_region 14 with (fail)
          go_cut [15] (fun qv wx => qv = .int .i64 (q : Int) ∧ wx = wr)
          case first =>
            go_wp2_with fail
            all_goals (go_meet; case rel => exact ⟨congrArg (Value.int .i64) (by omega), rfl⟩)
          case rest =>
            obtain ⟨rfl, rfl⟩ := hcut
            have hq0 : 0 < q := by omega
            have hqL : q ≤ L := by omega
            have hq8 : N % 8 + q ≤ 8 := by omega
            clear hq
            obtain ⟨b, off, rfl, hbw, hcell⟩ := hb.at_ (by omega)
            have hcx : wc.drew.cell? ⟨b, off + (at_ + N / 8), none⟩ = some (.int .u8 ((bs.getD (at_ + N / 8) 0 : Nat) : Int)) := by
              show wc.cell? ⟨b, off + (at_ + N / 8), none⟩ = _
              rw [hinv.bel.cell (p := ⟨b, off + (at_ + N / 8), none⟩) hbw, hcell _ hNat, nats_getD _ _ _ (by rw [Hlen.out]; exact hNat)]
            have hb8 : bs.getD (at_ + N / 8) 0 < 256 := by
              rw [getD_eq _ _ (by rw [Hlen.out]; exact hNat)]; exact hbs _ (List.getElem_mem _)
            generalize hy : bs.getD (at_ + N / 8) 0 = y at *
            have Hy := Lib.hid hy
            clear hy hcell
            go_upto_region 15 with (fail)
            go_cut [16] (fun pv wx => pv = .int .u8 ((y / 2 ^ (8 - N % 8 - q) % 2 ^ q : Nat) : Int) ∧ wx = wc.drew)
            case first =>
              go_region
              all_goals (go_wp2_with fail; go_meet; case rel => exact ⟨by rw [part_u8 _ _ _ hb8 (by omega)], rfl⟩)
            case rest =>
              obtain ⟨rfl, rfl⟩ := hcut
              generalize hpe : y / 2 ^ (8 - N % 8 - q) % 2 ^ q = p at *
              have Hpe := Lib.hid hpe
              clear hpe
              have hox := hinv.own.cellAt i (by omega)
              have hfx : wc.drew.frozen? ⟨w.heap.size, i, none⟩ = false := hinv.own.frozenAt i
              rw [nats, List.getElem?_map, gotten_getElem _ _ _ _ _ _ hlt, Option.map_some] at hox
              generalize hxe : (numOf m fun k => bitAt bs (8 * at_ + i * width + k)) = x at *
              have Hxe := Lib.hid hxe
              clear hxe
              have hox' : wc.drew.cell? ⟨w.heap.size, i, none⟩ = some (.int .u64 (x : Int)) := hox
              have hp0 : (0 : Int) ≤ (p : Int) := by omega
              have hp256 : p < 256 := by rw [← Hpe.out]; exact Nat.lt_of_lt_of_le (Nat.mod_lt _ (Nat.two_pow_pos q)) (Nat.pow_le_pow_right (n := 2) (i := q) (j := 8) (by decide) (by omega))
              clear hox hcx
              have hinv' : GetInv w bs (8 * at_) count width i m w.heap.size (.int .i64 ((i * width + m : Nat) : Int)) wc := ⟨rfl, hinv.own, hinv.bel⟩
              have hL1 : L ≤ 64 := by have := HL.out; omega
              have Hclose := Lib.hid (get_close (q := q) (p := p) hbs hlt hlm hw (by have := HL.out; omega) (by rw [HN.out]; exact hq8) hinv' (Nat.le_refl _) Hxe.out (by rw [HN.out, Hy.out]; exact Hpe.out))
              clear hinv'
              go_wp2_with fail
              have h1 := Hclose.out
              rw [HN.out] at h1
              have h2 := HL.out
              refine ⟨⟨m + q, by omega, congrArg (Value.int .i64) (by omega), ⟨h1.bit, h1.own, h1.bel.drew⟩⟩, by simp only [intOf]; omega⟩
        · have hmw : m = width := by omega
          have HM := Lib.hid (hinv.done hmw)
          clear hmw hinv
          go_wp2_with fail
          refine ⟨⟨i + 1, by omega, by go_num, HM.out⟩, by simp only [intOf]; omega⟩
    · have hic : i = count := by omega
      subst hic
      have hs := Sl.of_own_at hout.own (nats_one _ _)
      go_wp2_with fail
      refine (Hby.out _).mono ?_
      rintro e w2 ⟨rfl, rfl⟩
      go_wp2_with fail
      go_ret3
      exact ⟨_, _, rfl, by simpa using hs, hout.bel, by simpa using hout.own⟩
theorem get_ok (A : Option Addr) (n c : Nat) (bs : List Nat) (at_ count width : Nat) (w : World) (hb : Sl w A n c (nats .u8 bs)) (hbs : ∀ b ∈ bs, b < 256)
    (hw : width ≤ 64) (hc : count ≤ 1048576) (hr : bytesF count width ≤ (n : Int) - at_) (hat : at_ ≤ n) :
    Calls Try.prog 42 #[.slice A n c, .int .i64 (at_ : Int), .int .i64 (count : Int), .int .i64 (width : Int)] w fun e w' =>
      ∃ A' c', e = .returned (.tuple #[.slice A' count c', .int .i64 (bytesF count width), .int .i64 0]) ∧ Sl w' A' count c' (nats .u64 (getSpec bs (8 * at_) count width)) ∧ Below w.heap.size w w' := by
  refine (get_own A n c bs at_ count width w hb hbs hw hc hr hat).mono ?_
  rintro e w' ⟨A', c', rfl, s, b, _⟩
  exact ⟨A', c', rfl, s, b⟩
end Go.Proofs.Ytehcbgnoiogncaa
