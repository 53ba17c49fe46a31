/- rle2.lay: patches laid onto numbers. -/
import Derived.Test.YtehcbgnoiogncaaRunRun
import Derived.Test.YtehcbgnoiogncaaRunRd4
import Derived.BigQuiet
namespace Go.Proofs.Ytehcbgnoiogncaa
open Go.RowKit
open PackMath
set_option linter.unusedVariables false

theorem bla_pow (f x : Nat) (h : x < 2 ^ f) : x < 2 ^ Lib.bitLenAux f x := by
  induction f generalizing x with
  | zero => unfold Lib.bitLenAux; omega
  | succ f ih =>
    unfold Lib.bitLenAux
    split
    · omega
    · have := ih (x / 2) (by rw [Nat.pow_succ] at h; omega)
      rw [Nat.add_comm, Nat.pow_succ]
      omega
theorem bitLen_pow (x : Nat) (h : x < 18446744073709551616) : x < 2 ^ Lib.bitLen x := bla_pow 64 x h
theorem bitLen_le (x : Nat) : Lib.bitLen x ≤ 64 := bla_le 64 x
theorem lay_fit (v wd : Nat) (hv : v < 18446744073709551616) (h : Lib.bitLen v + wd ≤ 63) : v * 2 ^ wd < 9223372036854775808 := by
  have h1 := bitLen_pow v hv
  have h2 : 2 ^ Lib.bitLen v * 2 ^ wd ≤ 2 ^ 63 := by rw [← Nat.pow_add]; exact Nat.pow_le_pow_right (by decide) h
  have h3 : v * 2 ^ wd < 2 ^ Lib.bitLen v * 2 ^ wd := Nat.mul_lt_mul_of_pos_right h1 (Nat.two_pow_pos wd)
  omega
theorem Sl.far {w w' : World} {B : Option Addr} {m cB g : Nat} {xs : List Value} (s : Sl w B m cB xs) (hg : w.grownBy w' (some g)) (hne : ∀ bd, B = some bd → bd.block ≠ g) : Sl w' B m cB xs :=
  ⟨s.len, s.le, s.max, s.nil, (fun ad hA j u hu => by
    have hc := s.cells ad hA j u hu
    refine (hg.cell_far _ (World.block_lt_of_cell? w _ hc) (fun e => ?_)).trans hc
    injection e with e
    refine hne ad hA ?_
    rw [← e]
    unfold Addr.add
    split <;> rfl), s.one⟩

/-- What lay leaves. -/
def LayOut (base : Nat) (w : World) (A : Option Addr) (k c : Nat) (r : Option (List Nat)) (e : Ending) (w' : World) : Prop :=
  Below base w w' ∧ match r with
    | none => e = .returned (.bool false)
    | some L => e = .returned (.bool true) ∧ L.length = k ∧ (∀ x ∈ L, x < 18446744073709551616) ∧ w'.ownsRow base 26 1 (.slice A k c) k (nats .u64 L)
structure LaySt (base : Nat) (w : World) (A : Option Addr) (k c : Nat) (B : Option Addr) (m cB : Nat) (ps : List Nat) (wd bt : Nat) (R : Option (List Nat)) (i at_ : Nat) (L : List Nat) (wr : World) : Prop where
  own : wr.ownsRow base 26 1 (.slice A k c) k (nats .u64 L)
  sl : Sl wr B m cB (nats .u64 ps)
  bel : Below base w wr
  len : L.length = k
  all : ∀ x ∈ L, x < 18446744073709551616
  eq : R = layS wd bt L (ps.drop i) at_
theorem LaySt.draw {base : Nat} {w : World} {A : Option Addr} {k c : Nat} {B : Option Addr} {m cB : Nat} {ps : List Nat} {wd bt : Nat} {R : Option (List Nat)} {i at_ : Nat} {L : List Nat} {wr : World} (h : LaySt base w A k c B m cB ps wd bt R i at_ L wr) (hb : base ≤ w.heap.size) (q : Nat) : LaySt base w A k c B m cB ps wd bt R i at_ L (wr.drewN q) :=
  ⟨World.ownsRow.below h.own (below_drewN _ _), h.sl.keep (below_drewN _ _), h.bel.trans ((below_drewN _ _).mono (Nat.le_trans hb h.bel.size)), h.len, h.all, h.eq⟩

set_option maxHeartbeats 3200000 in
set_option maxRecDepth 4000 in
theorem lay_p (base g : Nat) (k c : Nat) (L : List Nat) (B : Option Addr) (m cB : Nat) (ps : List Nat) (wd bt : Nat) (w : World)
    (ho : w.ownsRow base 26 1 (.slice (some ⟨g, 0, none⟩) k c) k (nats .u64 L)) (hs : Sl w B m cB (nats .u64 ps)) (hne : ∀ bd, B = some bd → bd.block ≠ g)
    (hL : ∀ x ∈ L, x < 18446744073709551616) (hps : ∀ x ∈ ps, x < 18446744073709551616) (hk : 1 ≤ k) (hk2 : k ≤ 512) (hbt : bt ≤ 63) (hwd : wd ≤ 64) (hm : m ≤ 31) (hbase : base ≤ w.heap.size) :
    Calls Try.prog 36 #[.slice (some ⟨g, 0, none⟩) k c, .slice B m cB, .int .i64 (wd : Int), .int .i64 (bt : Int)] w fun e w' => LayOut base w (some ⟨g, 0, none⟩) k c (layS wd bt L ps 0) e w' := by
  have Hne := Lib.hid hne
  have Hps := Lib.hid hps
  have Hpl : Hid (ps.length = m) := by have := hs.len; rwa [nats_length] at this
  have H0 : LaySt base w (some ⟨g, 0, none⟩) k c B m cB ps wd bt (layS wd bt L ps 0) 0 0 L w := ⟨ho, hs, Below.refl _ _, by have := ho.1; rwa [nats_length, Nat.mul_one] at this, hL, rfl⟩
  generalize layS wd bt L ps 0 = R at *
  have Hst0 := Lib.hid H0
  clear H0 hne hps ho hs hL
  go_enter Try.func36, Try.ntmps36
  go_wp2_with fail
  go_loopw [9, 16] (fun av iv wr => ∃ (i at_ : Nat) (L1 : List Nat), i ≤ m ∧ at_ < k ∧ av = .int .i64 (at_ : Int) ∧ iv = .int .i64 (i : Int) ∧ Hid (LaySt base w (some ⟨g, 0, none⟩) k c B m cB ps wd bt R i at_ L1 wr)) (fun _ iv _ => m - (intOf iv).toNat)
  case atStart => exact ⟨0, 0, L, Nat.zero_le _, hk, rfl, rfl, Hst0⟩
  case round =>
    obtain ⟨i, at_, L1, him, hat, rfl, rfl, Hst⟩ := hrel
    by_cases hlt : i < m
    · obtain ⟨b3, o3, hB3, hb3, hcell⟩ := Hst.out.sl.at_ (by omega)
      subst hB3
      obtain ⟨u, hu⟩ : ∃ u, u = ps.getD i 0 := ⟨_, rfl⟩
      have hil : i < ps.length := by have := Hpl.out; omega
      have hu64 : u < 18446744073709551616 := by rw [hu, getD_eq _ _ hil]; exact Hps.out _ (List.getElem_mem _)
      have hcu : wr.cell? ⟨b3, o3 + i, none⟩ = some (.int .u64 (u : Int)) := by
        rw [hcell _ hlt, nats_getD _ _ _ hil, hu]
      have hdr : ps.drop i = u :: ps.drop (i + 1) := by
        rw [List.drop_eq_getElem_cons hil, hu, getD_eq _ _ hil]
      have Hdr := Lib.hid hdr
      obtain ⟨gp, hgp⟩ : ∃ gp, u / 2 ^ bt = gp := ⟨_, rfl⟩
      obtain ⟨v, hv⟩ : ∃ v, u % 2 ^ bt = v := ⟨_, rfl⟩
      have hgp64 : gp < 18446744073709551616 := by rw [← hgp]; exact Nat.lt_of_le_of_lt (Nat.div_le_self _ _) hu64
      have hv64 : v < 18446744073709551616 := by rw [← hv]; exact Nat.lt_of_le_of_lt (Nat.mod_le _ _) hu64
      have e1 : (u : Int) / 2 ^ bt = (gp : Int) := by rw [div_pow_cast, hgp]
      have e2 : bits .and .u64 (u : Int) (IntKind.u64.wrap (IntKind.u64.wrap (2 ^ bt) - 1)) = (v : Int) := by rw [and_mask_u64 _ _ hu64 hbt, hv]
      have Hgp := Lib.hid hgp
      have Hv := Lib.hid hv
      have E1 := Lib.hid e1
      have E2 := Lib.hid e2
      clear hcell hu hdr hgp hv e1 e2 hil
      go_upto_region 5 with (fail)
      go_cut [12, 13] (fun gv vv wx => gv = .int .u64 (gp : Int) ∧ vv = .int .u64 (v : Int) ∧ ∃ q, wx = wr.drewN q)
      case first =>
        go_quiet (fail)
        go_wp2_with fail
        go_meet
        case rel => exact ⟨by first | exact congrArg (Value.int .u64) E1.out | (simp; exact E1.out), by first | exact congrArg (Value.int .u64) E2.out | (simp; exact E2.out), _, rfl⟩
      case rest =>
        obtain ⟨rfl, rfl, q, rfl⟩ := hcut
        have Hst1 := Lib.hid (Hst.out.draw hbase q)
        have heq := Hst1.out.eq
        rw [Hdr.out] at heq
        unfold layS at heq
        rw [Hgp.out, Hv.out, Hst1.out.len] at heq
        by_cases hg1 : k ≤ at_ + gp
        · rw [if_pos hg1] at heq
          subst heq
          have hg1i : (k : Int) - (at_ : Int) ≤ (gp : Int) := by omega
          go_wp2_with fail
          go_ret
          exact ⟨Hst1.out.bel, rfl⟩
        · rw [if_neg hg1] at heq
          have hg1i : ¬ (k : Int) - (at_ : Int) ≤ (gp : Int) := by omega
          have hgpk : gp < 512 := by omega
          by_cases hv0 : v = 0
          · rw [if_pos hv0] at heq
            have hb0 : ((v : Int) == 0) = true := by rw [hv0]; rfl
            have Heq := Lib.hid heq
            clear heq hv0
            go_wp2_with fail
            exact ⟨⟨i + 1, at_ + gp, L1, by omega, by omega, by go_num, by go_num, Lib.hid ⟨Hst1.out.own, Hst1.out.sl, Hst1.out.bel, Hst1.out.len, Hst1.out.all, Heq.out⟩⟩, by simp only [intOf]; omega⟩
          · rw [if_neg hv0] at heq
            have hb0 : ((v : Int) == 0) = false := by rw [beq_eq_false_iff_ne]; omega
            have hbl := bitLen_le v
            have Hbp := Lib.hid (fun W => bits_p v W hv64)
            have hfit := lay_fit v wd hv64
            obtain ⟨bl, hble⟩ : ∃ bl, Lib.bitLen v = bl := ⟨_, rfl⟩
            rw [hble] at heq hbl hfit
            simp only [hble] at Hbp
            by_cases h63 : 63 < bl + wd
            · rw [if_pos h63] at heq
              subst heq
              have h63i : (63 : Int) < (bl : Int) + (wd : Int) := by omega
              clear hv0 hfit hble
              go_wp2_with fail
              refine (Hbp.out _).mono ?_
              rintro e w5 ⟨rfl, rfl⟩
              go_wp2_with fail
              go_ret
              exact ⟨Hst1.out.bel, rfl⟩
            · rw [if_neg h63] at heq
              have h63i : ¬ (63 : Int) < (bl : Int) + (wd : Int) := by omega
              have Hfit := Lib.hid (hfit (by omega))
              have Heq := Lib.hid heq
              clear hv0 hfit hble heq
              go_wp2_with fail
              refine (Hbp.out _).mono ?_
              rintro e w5 ⟨rfl, rfl⟩
              go_wp2_with fail
              obtain ⟨T, hT⟩ : ∃ T, T = at_ + gp := ⟨_, rfl⟩
              have hTk : T < k := by omega
              rw [show (at_ : Int) + (gp : Int) = (T : Int) from by omega]
              obtain ⟨W, hW⟩ : ∃ W, W = wr.drewN q := ⟨_, rfl⟩
              rw [← hW]
              have Hst2 := Hst1.out
              rw [← hW] at Hst2
              have hox := Hst2.own.cellAt T (by omega)
              have hTl : T < L1.length := by rw [Hst2.len]; exact hTk
              rw [nats, List.getElem?_map, List.getElem?_eq_getElem hTl, Option.map_some] at hox
              have hfx : W.frozen? ⟨g, T, none⟩ = false := Hst2.own.frozenAt T
              obtain ⟨x, hx⟩ : ∃ x, x = L1.getD T 0 := ⟨_, rfl⟩
              have hx64 : x < 18446744073709551616 := by rw [hx, getD_eq _ _ hTl]; exact Hst2.all _ (List.getElem_mem _)
              rw [← getD_eq _ _ hTl, ← hx] at hox
              obtain ⟨y, hy⟩ : ∃ y, y = v * 2 ^ wd := ⟨_, rfl⟩
              have hy64 : y < 9223372036854775808 := by rw [hy]; exact Hfit.out
              have e3 : IntKind.u64.wrap ((v : Int) * 2 ^ wd) = (y : Int) := by
                rw [hy, IntKind.wrap_u64]
                have := Hfit.out
                have h2 : ((v : Int) * 2 ^ wd) = ((v * 2 ^ wd : Nat) : Int) := by simp
                rw [h2]
                omega
              have e4 : bits .or .u64 (x : Int) (y : Int) = ((x ||| y : Nat) : Int) := bits_or_u64 _ _ hx64 (by omega)
              have HX := Lib.hid hx
              have HY := Lib.hid hy
              have HT := Lib.hid hT
              have HW := Lib.hid hW
              have HS := Lib.hid Hst2
              have hox' : W.cell? ⟨g, T, none⟩ = some (.int .u64 (x : Int)) := hox
              clear hx hy hT hW Hst2 hox hTl
              go_region
              all_goals go_wp2_with fail
              have hgb := (HS.out.own.lt g rfl).1
              have hst := HS.out.own.stored T (.int .u64 ((x ||| y : Nat) : Int))
              rw [nats_set] at hst
              have hxy : x ||| y < 18446744073709551616 := Nat.or_lt_two_pow (n := 64) hx64 (by omega)
              refine ⟨⟨i + 1, T, L1.set T (x ||| y), by omega, hTk, rfl, by go_num, Lib.hid ⟨World.ownsRow.drew hst.1, (HS.out.sl.far hst.2 Hne.out).keep ((Below.refl _ _).drew), (HS.out.bel.setCell hgb _).drew, by rw [List.length_set]; exact HS.out.len, ?_, ?_⟩⟩, by simp only [intOf]; omega⟩
              · intro z hz
                rcases List.mem_or_eq_of_mem_set hz with h | h
                · exact HS.out.all z h
                · rw [h]; exact hxy
              · rw [Heq.out, HX.out, HY.out, HT.out]
    · have hie : i = m := by omega
      subst hie
      have heq := Hst.out.eq
      rw [List.drop_of_length_le (by have := Hpl.out; omega)] at heq
      unfold layS at heq
      subst heq
      go_wp2_with fail
      go_ret
      exact ⟨Hst.out.bel, rfl, Hst.out.len, Hst.out.all, Hst.out.own⟩
end Go.Proofs.Ytehcbgnoiogncaa
