/- The reference's Encode of layer 9: what it makes. -/
import Derived.Test.YtehcbgnoiogncaaRunDeltaM
import Derived.Deep.DeepCutAuto
namespace Go.Proofs.Ytehcbgnoiogncaa
open Go.RowKit
open PackMath
set_option linter.unusedVariables false

theorem or_126 (e : Nat) (h : e < 2) : bits .or .i64 126 (e : Int) = ((126 + e : Nat) : Int) := by
  have : e = 0 ∨ e = 1 := by omega
  rcases this with rfl | rfl <;> decide
theorem take_snoc (U : List Nat) (p j : Nat) (h : p + j < U.length) : (U.drop p).take (j + 1) = (U.drop p).take j ++ [U.getD (p + j) 0] := by
  rw [List.take_add_one, List.getElem?_drop, List.getElem?_eq_getElem h, getD_eq _ _ h]
  rfl
theorem numU_val (v : Int) (h : InI v) : IntKind.u64.wrap v = ((numU false v : Nat) : Int) := by
  unfold numU
  rw [if_neg (by decide), IntKind.wrap_u64]
  omega

set_option maxHeartbeats 3200000 in
set_option maxRecDepth 4000 in
theorem renc9 (A : Option Addr) (n c : Nat) (l : List Int) (sg : Bool) (w : World) (hl : Sl w A n c (ints .i64 l)) (hI : ∀ v ∈ l, InI v) (hn : n ≤ 100000) :
    Calls Try.prog 21 #[.slice A n c, .bool sg] w fun e w' => ∃ v', e = .returned v' ∧ w'.ownsRow w.heap.size 5 1 v' (encS sg l).length (nats .u8 (encS sg l)) ∧ Below w.heap.size w w' := by
  have hlen := hl.len
  rw [ints_length] at hlen
  have HIs := Lib.hid hI
  have Hl := Lib.hid hl
  have Hlen := Lib.hid hlen
  obtain ⟨U, hU⟩ : ∃ U, U = l.map (numU sg) := ⟨_, rfl⟩
  have HUl := Lib.hid (show U.length = n from by rw [hU, List.length_map, hlen])
  have HUd := Lib.hid (show ∀ i, i < n → U.getD i 0 = numU sg (l.getD i 0) from fun i hi => by rw [hU, List.getD_eq_getElem?_getD, List.getElem?_map, List.getElem?_eq_getElem (by omega), List.getD_eq_getElem?_getD, List.getElem?_eq_getElem (by omega)]; rfl)
  have HU64 := Lib.hid (show ∀ x ∈ U, x < 18446744073709551616 from fun x hx => by
    rw [hU] at hx
    simp only [List.mem_map] at hx
    obtain ⟨v, hv, rfl⟩ := hx
    exact numU_lt _ _ (hI v hv))
  have HE := Lib.hid (show encS sg l = encU (cut512 U ((n + 511) / 512)) from by unfold encS cutsOf; rw [List.length_map, hlen, hU])
  clear hl hI hlen hU
  obtain ⟨i0, hi, hz0, hz1, hz2⟩ := info_parts Try.info5
  obtain ⟨j0, hj, hy0, hy1, hy2⟩ := info_parts Try.info26
  go_enter Try.func21, Try.ntmps21
  go_wp2_with fail
  go_loopw [5, 6] (fun ov av wr => ∃ (k m : Nat) (A1 : Option Addr) (c1 : Nat), 512 * k ≤ n + 511 ∧ ov = .slice A1 m c1 ∧ av = .int .i64 ((512 * k : Nat) : Int) ∧ Hid (wr.ownsRow w.heap.size 5 1 (.slice A1 m c1) m (nats .u8 (encU (cut512 U k)))) ∧ Hid (Below w.heap.size w wr)) (fun _ av _ => (n + 512 - intOf av).toNat)
  case atStart => exact ⟨0, 0, none, 0, by omega, rfl, rfl, Lib.hid (World.ownsRow_nil _ _ _ _), Lib.hid (Below.refl _ _)⟩
  case round =>
    obtain ⟨k, m, A1, c1, hk, rfl, rfl, Ho, Hb⟩ := hrel
    have Hml := Lib.hid (show (encU (cut512 U k)).length = m from by have := Ho.out.1; rw [nats_length] at this; omega)
    have hm : m ≤ 9 * n + 4 := by
      have h1 := cuts_len U k
      rw [Hml.out, List.length_take, HUl.out] at h1
      omega
    obtain ⟨p, hp⟩ : ∃ p, p = 512 * k := ⟨_, rfl⟩
    have HP := Lib.hid hp
    rw [← hp] at hk ⊢
    have hsz := Hb.out.size
    by_cases hlt : p < n
    · obtain ⟨E, hE⟩ : ∃ E, E = if n < p + 512 then n else p + 512 := ⟨_, rfl⟩
      have HEd := Lib.hid hE
      have hE1 : p < E ∧ E ≤ p + 512 ∧ E ≤ n := by rw [hE]; split <;> omega
      obtain ⟨hE1, hE2, hE3⟩ := hE1
      clear hp hE
      go_upto_if 22 with (fail)
      go_cut [7] (fun v wx => v = .int .i64 (E : Int) ∧ wx = wr)
      case first =>
        by_cases h : n < p + 512
        · have e := HEd.out
          rw [if_pos h] at e
          subst e
          have h' : (E : Int) < (p : Int) + 512 := by omega
          go_wp2_with fail
          go_meet
          case rel => exact ⟨rfl, rfl⟩
        · have e := HEd.out
          rw [if_neg h] at e
          have h' : ¬ (n : Int) < (p : Int) + 512 := by omega
          have E' := Lib.hid (show (p : Int) + 512 = (E : Int) by omega)
          clear e
          go_wp2_with fail
          go_meet
          case rel => exact ⟨by rw [E'.out], rfl⟩
      case rest =>
        obtain ⟨rfl, rfl⟩ := hcut
        go_wp2_with fail
        go_loopw [8, 9] (fun xv iv wq => ∃ (i j : Nat) (A2 : Option Addr) (c2 : Nat), Hid (i = p + j) ∧ i ≤ E ∧ xv = .slice A2 j c2 ∧ iv = .int .i64 (i : Int) ∧ Hid (wq.ownsRow wc.heap.size 26 1 (.slice A2 j c2) j (nats .u64 ((U.drop p).take j))) ∧ Hid (Below wc.heap.size wc wq)) (fun _ iv _ => (E - intOf iv).toNat)
        case atStart => exact ⟨p, 0, none, 0, Lib.hid rfl, by omega, rfl, rfl, Lib.hid (World.ownsRow_nil _ _ _ _), Lib.hid (Below.refl _ _)⟩
        case round =>
          obtain ⟨i, j, A2, c2, HIJ, hiE, rfl, rfl, Hx, Hq⟩ := hrel
          have hszq := Hq.out.size
          by_cases hlt2 : i < E
          · obtain ⟨b, off, rfl, hbw, hcell⟩ := Hl.out.at_ (by omega)
            have hcl := hcell i (by omega)
            rw [ints_getD _ _ _ (by rw [Hlen.out]; omega)] at hcl
            have hyI : InI (l.getD i 0) := by
              rw [List.getD_eq_getElem?_getD, List.getElem?_eq_getElem (by rw [Hlen.out]; omega)]
              exact HIs.out _ (List.getElem_mem _)
            have hud := HUd.out i (by omega)
            have hts := take_snoc U p j (by rw [HUl.out]; have := HIJ.out; omega)
            rw [← HIJ.out, hud] at hts
            have hu64 := numU_lt sg _ hyI
            generalize l.getD i 0 = y at *
            obtain ⟨u, hu⟩ : ∃ u, u = numU sg y := ⟨_, rfl⟩
            rw [← hu] at hts hu64
            have HTS := Lib.hid hts
            have HUU := Lib.hid hu
            have hcl2 := ((below_trans' Hb.out Hq.out).cell (p := ⟨b, off + i, none⟩) hbw).trans hcl
            clear hcell hcl hud hts hu hlt
            cases sg with
            | true =>
              have Hz := Lib.hid (fun W => zig_r y W hyI)
              have huz : zigS y = (u : Int) := by
                have := HUU.out
                have hz := zig_in y hyI
                unfold numU at this
                rw [if_pos rfl] at this
                omega
              rw [huz] at Hz
              clear huz
              go_wp2_with fail
              refine (Hz.out _).mono ?_
              rintro e w7 ⟨rfl, rfl⟩
              go_wp2_with (at_builtin; refine wpList_append_sl rfl _ _ 22 rfl wc.heap.size 26 j0 (.int .u64 0) 8 Try.underlying22 hj hy0 hy1 hy2 rfl _ j _ rfl (Hx.out.alloc _) (some ⟨wr.heap.size, 0, none⟩) 1 1 [.int .u64 (u : Int)] rfl (Sl.one_new wr (.int .u64 (u : Int)) _ rfl) ?d1 ?d2 ?d3 ?_)
              case d1 => have := HIJ.out; unfold maxLen; omega
              case d2 => have := HIJ.out; omega
              case d3 => first | omega | (simp; omega)
              intro v7 w7 ho7 hb7 _ _
              obtain ⟨A7, c7, rfl, s7⟩ := Sl.of_own ho7 (fun u hu => (List.mem_append.1 hu).elim (nats_one _ _ u) (fun h => by simp at h; subst h; rfl))
              have H7 : Hid (w7.ownsRow wc.heap.size 26 1 (.slice A7 (j + 1) c7) (j + 1) (nats .u64 ((U.drop p).take (j + 1)))) := by
                rw [HTS.out, nats_append]; exact ho7
              have Hq7 := Lib.hid ((Hq.out.alloc hszq _).trans hb7)
              clear ho7 s7 hb7
              go_wp2_with fail
              exact ⟨⟨i + 1, j + 1, A7, c7, Lib.hid (by have := HIJ.out; omega), by omega, rfl, by first | rfl | simp, H7, Hq7⟩, by simp only [intOf]; omega⟩
            | false =>
              have huz : IntKind.u64.wrap y = (u : Int) := by
                rw [HUU.out]; exact numU_val y hyI
              have Huz := Lib.hid huz
              clear huz
              go_wp2_with (at_builtin; refine wpList_append_sl rfl _ _ 22 rfl wc.heap.size 26 j0 (.int .u64 0) 8 Try.underlying22 hj hy0 hy1 hy2 rfl _ j _ rfl (Hx.out.alloc _) (some ⟨wr.heap.size, 0, none⟩) 1 1 [.int .u64 (IntKind.u64.wrap y)] rfl (Sl.one_new wr (.int .u64 (IntKind.u64.wrap y)) _ rfl) ?d1 ?d2 ?d3 ?_)
              case d1 => have := HIJ.out; unfold maxLen; omega
              case d2 => have := HIJ.out; omega
              case d3 => first | omega | (simp; omega)
              intro v7 w7 ho7 hb7 _ _
              rw [Huz.out] at ho7
              obtain ⟨A7, c7, rfl, s7⟩ := Sl.of_own ho7 (fun u hu => (List.mem_append.1 hu).elim (nats_one _ _ u) (fun h => by simp at h; subst h; rfl))
              have H7 : Hid (w7.ownsRow wc.heap.size 26 1 (.slice A7 (j + 1) c7) (j + 1) (nats .u64 ((U.drop p).take (j + 1)))) := by
                rw [HTS.out, nats_append]; exact ho7
              have Hq7 := Lib.hid ((Hq.out.alloc hszq _).trans hb7)
              clear ho7 s7 hb7
              go_wp2_with fail
              exact ⟨⟨i + 1, j + 1, A7, c7, Lib.hid (by have := HIJ.out; omega), by omega, rfl, by first | rfl | simp, H7, Hq7⟩, by simp only [intOf]; omega⟩
          · have hiE' : i = E := by omega
            subst hiE'
            clear hlt2 hiE
            have hj512 : j ≤ 512 := by have := HIJ.out; omega
            have hj1 : 1 ≤ j := by have := HIJ.out; omega
            have e1 : (i : Int) - (p : Int) - 1 = ((j - 1 : Nat) : Int) := by have := HIJ.out; omega
            have E1 := Lib.hid e1
            clear e1
            have hdr : [Value.int .u8 (bits .or .i64 126 (((i : Int) - (p : Int) - 1) / 256) % 256), Value.int .u8 (((i : Int) - (p : Int) - 1) % 256)] = nats .u8 (hdB 1 31 (j - 1)) := by
              have e2 := or_126 ((j - 1) / 256) (by omega)
              rw [E1.out, show ((j - 1 : Nat) : Int) / 256 = (((j - 1) / 256 : Nat) : Int) from by omega, e2, show ((126 + (j - 1) / 256 : Nat) : Int) % 256 = ((126 + (j - 1) / 256 : Nat) : Int) from by omega, show ((j - 1 : Nat) : Int) % 256 = (((j - 1) % 256 : Nat) : Int) from by omega]
              rfl
            have hap : Apart (.slice A1 m c1) (.slice A2 j c2) := fun k h1 h2 => by
              have := (Ho.out.lt k h1).2
              have := (Hx.out.lt k h2).1
              omega
            have how := World.ownsRow.below Ho.out Hq.out
            have Hdr := Lib.hid hdr
            have Hap := Lib.hid hap
            have How := Lib.hid how
            have hszw : w.heap.size ≤ wr.heap.size := Nat.le_trans hsz hszq
            clear hdr hap how
            go_wp2_with (at_builtin; refine wpList_append_sl rfl _ _ 29 rfl w.heap.size 5 i0 (.int .u8 0) 1 Try.underlying29 hi hz0 hz1 hz2 rfl _ m _ rfl (How.out.alloc _) (some ⟨wr.heap.size, 0, none⟩) 2 2 [Value.int .u8 (bits .or .i64 126 (((i : Int) - (p : Int) - 1) / 256) % 256), Value.int .u8 (((i : Int) - (p : Int) - 1) % 256)] rfl (Sl.lit wr _ 2 _ rfl (by decide) (by rw [Hdr.out]; exact nats_one _ _)) ?d1 ?d2 ?d3 ?_)
            case d1 => unfold maxLen; omega
            case d2 => omega
            case d3 => first | omega | (simp; omega)
            intro v8 w8 ho8 hb8 hg8 _
            have hx8 := (Hx.out.alloc _).kept hg8 Hap.out.kept
            rw [Hdr.out, ← nats_append] at ho8
            obtain ⟨A8, c8, rfl, s8⟩ := Sl.of_own ho8 (nats_one _ _)
            have S8 := Lib.hid s8
            have SX := Lib.hid (Sl.of_own' hx8 (nats_one _ _))
            have B8 := Lib.hid (((below_trans' Hb.out Hq.out).alloc hszw _).trans hb8)
            clear ho8 hb8 hg8 hx8 s8
            go_wp2_with fail
            refine (rput_own A8 (m + 2) c8 _ A2 j c2 ((U.drop p).take j) 64 w8 S8.out SX.out (fun x hx => HU64.out x (List.mem_of_mem_drop (List.mem_of_mem_take hx))) (by decide) (by omega)).mono ?_
            rintro e w9 ⟨v9, rfl, o9, b9⟩
            obtain ⟨A9, c9, rfl, s9⟩ := Sl.of_own o9 (nats_one _ _)
            have ec : encU (cut512 U k) ++ hdB 1 31 (j - 1) ++ putSpec ((U.drop p).take j) 64 = encU (cut512 U (k + 1)) := by
              rw [cut512_succ, encU_append, show encU [(U.drop (512 * k)).take 512] = chunkB ((U.drop (512 * k)).take 512) from by simp [encU]]
              have e3 : (U.drop (512 * k)).take 512 = (U.drop p).take j := by
                rw [← HP.out]
                have h1 := HIJ.out
                have h2 := HEd.out
                by_cases h : n < p + 512
                · rw [if_pos h] at h2
                  rw [List.take_of_length_le (by rw [List.length_drop, HUl.out]; omega), List.take_of_length_le (by rw [List.length_drop, HUl.out]; omega)]
                · rw [if_neg h] at h2
                  rw [show j = 512 from by omega]
              have e4 : ((U.drop p).take j).length = j := by
                rw [List.length_take, List.length_drop, HUl.out]
                have h1 := HIJ.out
                omega
              rw [e3]
              unfold chunkB
              rw [e4, List.append_assoc]
            rw [ec] at o9
            have O9 := Lib.hid (o9.mono (Nat.le_trans (World.ownsRow.lt How.out |> fun _ => Nat.le_refl _) B8.out.size))
            have B9 := Lib.hid (below_trans' B8.out b9)
            have HP1 := Lib.hid (show ((512 * (k + 1) : Nat) : Int) = (p : Int) + 512 by have := HP.out; omega)
            have hp1 : 512 * (k + 1) ≤ n + 511 := by have := HP.out; omega
            clear o9 s9 ec
            go_wp2_with fail
            exact ⟨⟨k + 1, _, A9, c9, hp1, rfl, by rw [HP1.out], O9, B9⟩, by simp only [intOf]; omega⟩
    · have ek : k = (n + 511) / 512 := by omega
      have HO := Lib.hid (show wr.ownsRow w.heap.size 5 1 (.slice A1 m c1) (encS sg l).length (nats .u8 (encS sg l)) from by
        rw [HE.out, ← ek, Hml.out]; exact Ho.out)
      clear hp ek
      go_wp2_with fail
      go_ret
      exact ⟨_, rfl, HO.out, Hb.out⟩
end Go.Proofs.Ytehcbgnoiogncaa
