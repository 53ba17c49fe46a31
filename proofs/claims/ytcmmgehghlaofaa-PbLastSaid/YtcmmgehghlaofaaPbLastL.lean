/- PbLast: the walk. -/
import Derived.Test.YtcmmgehghlaofaaPbPacked
import Derived.Test.YtcmmgehghlaofaaRowsIn
import Derived.Test.YtcmmgehghlaofaaOps3
import Derived.Test.YtcmmgehghlaofaaOps6
namespace Go.Proofs.Ytcmmgehghlaofaa
open Go.RowKit
set_option linter.unusedVariables false

/-- What the law puts in i rounds. -/
def oneN (num : Nat) (o : Option Nat) : List PutV := match o with | some v => [.num num v] | none => []
def oneT (num : Nat) (o : Option (List Nat)) : List PutV := match o with | some b => [.txt num b] | none => []
def altN (num : Nat) (l : List Nat) (m : List (List Nat)) : Nat → List PutV
  | 0 => []
  | i + 1 => altN num l m i ++ (oneN num l[i]? ++ oneT num m[i]?)
theorem altN_ok (num : Nat) (l : List Nat) (m : List (List Nat)) (i : Nat) (h1 : 1 ≤ num) (h2 : num ≤ 1000) (hl : ∀ v ∈ l, v < 18446744073709551616) (hm : ∀ j, j < i → ∀ b, m[j]? = some b → b.length ≤ 100) : (∀ p ∈ altN num l m i, p.ok ∧ p.bytes.length ≤ 130) ∧ (altN num l m i).length ≤ 2 * i := by
  induction i with
  | zero => exact ⟨(fun _ h => by cases h), by simp [altN]⟩
  | succ i ih =>
    obtain ⟨ih1, ih2⟩ := ih fun j hj => hm j (by omega)
    have k1 : (oneN num l[i]?).length ≤ 1 := by unfold oneN; split <;> simp
    have k2 : (oneT num m[i]?).length ≤ 1 := by unfold oneT; split <;> simp
    refine ⟨fun p hp => ?_, by simp only [altN, List.length_append]; omega⟩
    rcases List.mem_append.1 hp with hp | hp
    · exact ih1 p hp
    · rcases List.mem_append.1 hp with hp | hp
      · unfold oneN at hp
        split at hp
        · rename_i v hv
          rw [List.mem_singleton] at hp
          subst hp
          have := num_len num v
          exact ⟨⟨h1, by omega, hl v (List.mem_of_getElem? hv)⟩, by omega⟩
        · cases hp
      · unfold oneT at hp
        split at hp
        · rename_i b hb
          rw [List.mem_singleton] at hp
          subst hp
          have h3 := hm i (by omega) b hb
          have h4 := (varP_length (num * 8 + 2)).2
          have h5 := (varP_length b.length).2
          refine ⟨⟨h1, by omega, by omega⟩, ?_⟩
          show (varP _ ++ varP _ ++ b).length ≤ _
          rw [List.length_append, List.length_append]
          omega
        · cases hp
theorem take_some {α : Type} (l : List α) (i : Nat) : l.take (i + 1) = l.take i ++ l[i]?.toList := by
  rcases Nat.lt_or_ge i l.length with h | h
  · rw [List.take_succ_eq_append_getElem h, List.getElem?_eq_getElem h]; rfl
  · rw [List.take_of_length_le (by omega), List.take_of_length_le h, List.getElem?_eq_none h]; simp
theorem altN_nums (num : Nat) (l : List Nat) (m : List (List Nat)) (i : Nat) : (altN num l m i).filterMap (PutV.isNum num) = l.take i := by
  induction i with
  | zero => simp [altN]
  | succ i ih =>
    rw [take_some]
    show (altN num l m i ++ (oneN num l[i]? ++ oneT num m[i]?)).filterMap _ = _
    rw [List.filterMap_append, List.filterMap_append, ih]
    congr 1
    have e2 : (oneT num m[i]?).filterMap (PutV.isNum num) = [] := by unfold oneT; split <;> simp [PutV.isNum]
    rw [e2, List.append_nil]
    unfold oneN
    split
    · rename_i v hv; rw [hv]; simp [PutV.isNum]
    · rename_i hv; rw [hv]; rfl
theorem altN_txts (num : Nat) (l : List Nat) (m : List (List Nat)) (i : Nat) : (altN num l m i).filterMap (PutV.isTxt num) = m.take i := by
  induction i with
  | zero => simp [altN]
  | succ i ih =>
    rw [take_some]
    show (altN num l m i ++ (oneN num l[i]? ++ oneT num m[i]?)).filterMap _ = _
    rw [List.filterMap_append, List.filterMap_append, ih]
    congr 1
    have e2 : (oneN num l[i]?).filterMap (PutV.isTxt num) = [] := by unfold oneN; split <;> simp [PutV.isTxt]
    rw [e2, List.nil_append]
    unfold oneT
    split
    · rename_i v hv; rw [hv]; simp [PutV.isTxt]
    · rename_i hv; rw [hv]; rfl
theorem altN_none (num : Nat) (l : List Nat) (m : List (List Nat)) (i : Nat) : (altN num l m i).filterMap (PutV.isNum (num + 1)) = [] := by
  induction i with
  | zero => simp [altN]
  | succ i ih =>
    show (altN num l m i ++ (oneN num l[i]? ++ oneT num m[i]?)).filterMap _ = _
    rw [List.filterMap_append, List.filterMap_append, ih]
    have e1 : (oneN num l[i]?).filterMap (PutV.isNum (num + 1)) = [] := by unfold oneN; split <;> simp [PutV.isNum]
    have e2 : (oneT num m[i]?).filterMap (PutV.isNum (num + 1)) = [] := by unfold oneT; split <;> simp [PutV.isNum]
    rw [e1, e2]; rfl
theorem altN_byte (num : Nat) (l : List Nat) (m : List (List Nat)) (i : Nat) (hok : ∀ p ∈ altN num l m i, p.ok) (hm : ∀ b ∈ m, ∀ x ∈ b, x < 256) : ∀ x ∈ putsB (altN num l m i), x < 256 := by
  refine putsB_byte _ fun p hp => putB_byte p (hok p hp) ?_
  cases p with
  | num n v => trivial
  | txt n b =>
    have : ∀ i, PutV.txt n b ∈ altN num l m i → b ∈ m := fun i => by
      induction i with
      | zero => intro h; cases h
      | succ i ih =>
        intro h
        rcases List.mem_append.1 h with h | h
        · exact ih h
        · rcases List.mem_append.1 h with h | h
          · unfold oneN at h; split at h
            · rw [List.mem_singleton] at h; cases h
            · cases h
          · unfold oneT at h; split at h
            · rename_i b' hb
              rw [List.mem_singleton] at h; cases h
              exact List.mem_of_getElem? hb
            · cases h
    exact hm b (this i hp)
theorem alt_u (num : Nat) (l : List Nat) (m : List (List Nat)) (i : Nat) (hi : l.length ≤ i) : uOf (lastF (putsF 0 (altN num l m i)) num 0) = l.getLast?.getD 0 ∧ (lastF (putsF 0 (altN num l m i)) num 0).isSome = l.getLast?.isSome := by
  have h := lastF_num num 0 (altN num l m i)
  rw [altN_nums, List.take_of_length_le hi] at h
  unfold uOf
  rw [h, ← h, Option.isSome_map]
  exact ⟨rfl, rfl⟩
theorem alt_b (num : Nat) (l : List Nat) (m : List (List Nat)) (i : Nat) (hi : m.length ≤ i) : bOf (lastF (putsF 0 (altN num l m i)) num 2) = m.getLast?.getD [] ∧ (lastF (putsF 0 (altN num l m i)) num 2).isSome = m.getLast?.isSome := by
  have h := lastF_txt num 0 (altN num l m i)
  rw [altN_txts, List.take_of_length_le hi] at h
  unfold bOf
  rw [h, ← h, Option.isSome_map]
  exact ⟨rfl, rfl⟩
theorem alt_none (num : Nat) (l : List Nat) (m : List (List Nat)) (i : Nat) : (lastF (putsF 0 (altN num l m i)) ((num : Int) + 1) 0).isSome = false := by
  have h := lastF_num (num + 1) 0 (altN num l m i)
  rw [altN_none, Int.natCast_add] at h
  have h2 := congrArg Option.isSome h
  rw [Option.isSome_map] at h2
  exact h2
theorem putsB_one_num (num v : Nat) (h1 : 1 ≤ num) (h2 : num ≤ 1000) : putU (num : Int) v = putsB (oneN num (some v)) := by
  show putU _ _ = (PutV.num num v).bytes ++ []
  unfold putU
  rw [if_pos (show mayF _ from ⟨by omega, by omega⟩), List.append_nil]
  rfl
theorem putsB_one_txt (num : Nat) (b : List Nat) (h1 : 1 ≤ num) (h2 : num ≤ 1000) : putT (num : Int) b = putsB (oneT num (some b)) := by
  show putT _ _ = (PutV.txt num b).bytes ++ []
  unfold putT
  rw [if_pos (show mayF _ from ⟨by omega, by omega⟩), List.append_nil]
  rfl
theorem last_at {α : Type} (l : List α) (n : Nat) (h : l.length = n) (h0 : 0 < n) : l.getLast? = l[n - 1]? := by
  rw [List.getLast?_eq_getElem?, h]
theorem drewN_drew_below {w w' : World} (h : Below w.heap.size w w') (q : Nat) : Below w.heap.size w (w'.drewN q).drew := (h.trans ((below_drewN w' q).mono h.size)).drew
theorem ta_getD (ts : List TA) (i : Nat) (h : i < ts.length) : (ts.map TA.v).getD i undef = ts[i].v := by simp [h]

set_option maxHeartbeats 6400000 in
set_option maxRecDepth 100000 in
theorem law_PbLast (A0 : Option Addr) (n0 c0 : Nat) (l : List Nat) (A1 : Option Addr) (n1 c1 : Nat) (ts : List TA) (num : Int) (w : World) (hs : Sl w A0 n0 c0 (nats .u64 l)) (hl : ∀ x ∈ l, x < 18446744073709551616) (hr : RowsIn w A1 n1 c1 ts) (hnum : -9223372036854775808 ≤ num ∧ num ≤ 9223372036854775807) :
    Calls Try.prog 15 #[.slice A0 n0 c0, .slice A1 n1 c1, .int .i64 num] w fun e w' => e = .returned (.bool true) ∧ Below w.heap.size w w' := by
  have hle0 := hs.le
  have hmax0 := hs.max
  have hle1 := hr.sl.le
  have hmax1 := hr.sl.max
  unfold maxLen at hmax0 hmax1
  have hlen0 := hs.len
  have hlen1 := hr.sl.len
  rw [nats_length] at hlen0
  rw [List.length_map] at hlen1
  obtain ⟨hc1, hc2⟩ := hnum
  have Hs := Lib.hid hs
  have Hl := Lib.hid hl
  have Hr := Lib.hid hr
  have Hlen0 := Lib.hid hlen0
  have Hlen1 := Lib.hid hlen1
  clear hs hl hr hlen0 hlen1
  obtain ⟨i0, hi, hz0, hz1, hz2⟩ := info_parts Try.info58
  obtain ⟨j0, hj, hy0, hy1, hy2⟩ := info_parts Try.info22
  have Hi := Lib.hid hi
  have Hz1 := Lib.hid hz1
  have Hj := Lib.hid hj
  have Hy1 := Lib.hid hy1
  clear hi hz0 hz1 hz2 hj hy0 hy1 hy2
  by_cases hg : n0 ≤ 40 ∧ n1 ≤ 40 ∧ 1 ≤ num ∧ num ≤ 1000
  · obtain ⟨g1, g2, g3, g4⟩ := hg
    obtain ⟨k, rfl⟩ : ∃ k : Nat, num = k := ⟨num.toNat, by omega⟩
    have hk1 : 1 ≤ k := by omega
    have hk2 : k ≤ 1000 := by omega
    clear g3 g4 hc1 hc2
    obtain ⟨m, hm⟩ : ∃ m, m = ts.map TA.b := ⟨_, rfl⟩
    have Hm := Lib.hid hm
    clear hm
    go_enter Try.func15, Try.ntmps15
    go_wp2_with fail
    refine (known3 w).mono ?_
    rintro e w1 ⟨rfl, hb1⟩
    have Hb1 := Lib.hid hb1
    clear hb1
    go_wp2_with fail
    go_loopw [7, 8] (fun bv iv wr => ∃ (i mb cb : Nat) (Ab : Option Addr), (i ≤ n0 ∨ i ≤ n1) ∧ iv = .int .i64 (i : Int) ∧ bv = .slice Ab mb cb ∧ Sl wr Ab mb cb (nats .u8 (putsB (altN k l m i))) ∧ (∀ j, j < i → ∀ b, m[j]? = some b → b.length ≤ 100) ∧ Below w.heap.size w wr) (fun _ iv _ => n0 + n1 - (intOf iv).toNat)
    case atStart => exact ⟨0, 0, 0, none, by omega, rfl, rfl, Sl.none_ _, (fun j hj => by omega), Hb1.out⟩
    case round =>
      obtain ⟨i, mb, cb, Ab, hi', rfl, rfl, hsl, h100, hbel⟩ := hrel
      have hok := altN_ok k l m i hk1 hk2 Hl.out h100
      have hmb := hsl.len
      rw [nats_length] at hmb
      have hmb2 : mb ≤ 10400 := by
        have h1 := putsB_len _ 130 fun p hp => (hok.1 p hp).2
        rw [hmb] at h1
        have h2 := Nat.mul_le_mul_left 130 hok.2
        omega
      have Hsl := Lib.hid hsl
      have H100 := Lib.hid h100
      have Hbel := Lib.hid hbel
      have Hok := Lib.hid hok
      have Hmb := Lib.hid hmb
      clear hsl h100 hbel hok hmb Hb1
      have keyT : i < n1 → ∃ (b off : Nat) (t : TA), A1 = some ⟨b, off, none⟩ ∧ wr.cell? ⟨b, off + i, none⟩ = some (.slice t.A t.b.length t.c) ∧ Sl wr t.A t.b.length t.c (nats .u8 t.b) ∧ m[i]? = some t.b := fun h => by
        obtain ⟨b, off, hA, hbw, hcell⟩ := Hr.out.sl.at_ (by omega)
        have hil : i < ts.length := by rw [Hlen1.out]; exact h
        have hcl := hcell i h
        rw [ta_getD ts i hil] at hcl
        exact ⟨b, off, ts[i], hA, (Hbel.out.cell (p := ⟨b, off + i, none⟩) hbw).trans hcl, (Hr.out.txt _ (List.getElem_mem hil)).keep Hbel.out, by rw [Hm.out]; simp [hil]⟩
      have keyN : i < n0 → ∃ (b off v : Nat), A0 = some ⟨b, off, none⟩ ∧ wr.cell? ⟨b, off + i, none⟩ = some (.int .u64 (v : Int)) ∧ v < 18446744073709551616 ∧ l[i]? = some v := fun h => by
        obtain ⟨b, off, hA, hbw, hcell⟩ := Hs.out.at_ (by omega)
        have hil : i < l.length := by rw [Hlen0.out]; exact h
        have hcl := hcell i h
        rw [nats_getD _ _ _ hil, PackMath.getD_eq _ _ hil] at hcl
        exact ⟨b, off, l[i], hA, (Hbel.out.cell (p := ⟨b, off + i, none⟩) hbw).trans hcl, Hl.out _ (List.getElem_mem hil), List.getElem?_eq_getElem hil⟩
      have KT := Lib.hid keyT
      have KN := Lib.hid keyN
      clear keyT keyN
      by_cases h0 : i < n0
      · obtain ⟨b0, off0, v, rfl, d0, hv, hlv⟩ := KN.out h0
        have hpu := putuint_p Ab mb cb _ (k : Int) v wr Hsl.out hv (by omega)
        rw [putsB_one_num k v hk1 hk2] at hpu
        have Hpu := Lib.hid hpu
        have Hlv := Lib.hid hlv
        clear hpu hlv
        by_cases h1 : i < n1
        · obtain ⟨b1, off1, t, rfl, d1, ht, hmt⟩ := KT.out h1
          obtain ⟨tA, tc, tb⟩ := t
          dsimp only at d1 ht hmt
          generalize htn : tb.length = tn at *
          have Ht := Lib.hid ht
          have Hmt := Lib.hid hmt
          have Htn := Lib.hid htn
          clear ht hmt htn
          go_wp2_with fail
          refine Hpu.out.mono ?_
          rintro e w3 ⟨A3, m3, c3, rfl, s3, b3⟩
          have hm3 := s3.len
          rw [nats_length, List.length_append, Hmb.out] at hm3
          have hn20 : (putsB (oneN k (some v))).length ≤ 20 := by show ((PutV.num k v).bytes ++ []).length ≤ 20; rw [List.append_nil]; exact num_len k v
          have hm3' : m3 ≤ 10420 := by omega
          have d1' := (b3.cell (p := ⟨b1, off1 + i, none⟩) (World.block_lt_of_cell? _ _ d1)).trans d1
          have Hs3 := Lib.hid s3
          have Hb3 := Lib.hid b3
          clear s3 b3 hm3 hn20 d0 d1
          by_cases h100 : 100 < tn
          · go_wp2_with fail
            go_ret
            exact ⟨rfl, Hbel.out.trans (Hb3.out.mono Hbel.out.size)⟩
          · go_wp2_with fail
            refine (putbytes_p A3 m3 c3 _ (k : Int) tA tn tc tb w3 Hs3.out (Ht.out.keep Hb3.out) (by omega) (by omega)).mono ?_
            rintro e w4 ⟨A4, m4, c4, rfl, s4, b4⟩
            rw [putsB_one_txt k tb hk1 hk2] at s4
            have hst : Sl w4 A4 m4 c4 (nats .u8 (putsB (altN k l m (i + 1)))) := by
              show Sl w4 A4 m4 c4 (nats .u8 (putsB (altN k l m i ++ (oneN k l[i]? ++ oneT k m[i]?))))
              rw [Hlv.out, Hmt.out, putsB_append, putsB_append, ← List.append_assoc]
              exact s4
            have Hst := Lib.hid hst
            have Hb4 := Lib.hid (Hbel.out.trans ((below_trans' Hb3.out b4).mono Hbel.out.size))
            have H101 : Hid (∀ j, j < i + 1 → ∀ b, m[j]? = some b → b.length ≤ 100) := fun j hj b hb => by
              rcases Nat.lt_or_ge j i with h | h
              · exact H100.out j h b hb
              · obtain rfl : j = i := by omega
                rw [Hmt.out] at hb
                cases hb
                rw [Htn.out]; omega
            clear s4 b4 hst
            go_wp2_with fail
            exact ⟨⟨i + 1, m4, c4, A4, by omega, by go_num, rfl, Hst.out, H101.out, Hb4.out⟩, by simp only [intOf]; omega⟩
        · have hmn : m[i]? = none := List.getElem?_eq_none (by rw [Hm.out, List.length_map, Hlen1.out]; omega)
          have Hmn := Lib.hid hmn
          clear hmn
          go_wp2_with fail
          refine Hpu.out.mono ?_
          rintro e w3 ⟨A3, m3, c3, rfl, s3, b3⟩
          have hst : Sl w3 A3 m3 c3 (nats .u8 (putsB (altN k l m (i + 1)))) := by
            show Sl w3 A3 m3 c3 (nats .u8 (putsB (altN k l m i ++ (oneN k l[i]? ++ oneT k m[i]?))))
            rw [Hlv.out, Hmn.out, putsB_append]
            exact s3
          have Hst := Lib.hid hst
          have Hb4 := Lib.hid (Hbel.out.trans (b3.mono Hbel.out.size))
          have H101 : Hid (∀ j, j < i + 1 → ∀ b, m[j]? = some b → b.length ≤ 100) := fun j hj b hb => by
            rcases Nat.lt_or_ge j i with h | h
            · exact H100.out j h b hb
            · obtain rfl : j = i := by omega
              rw [Hmn.out] at hb
              cases hb
          clear s3 b3 hst d0
          go_wp2_with fail
          exact ⟨⟨i + 1, m3, c3, A3, by omega, by go_num, rfl, Hst.out, H101.out, Hb4.out⟩, by simp only [intOf]; omega⟩
      · have hln : l[i]? = none := List.getElem?_eq_none (by rw [Hlen0.out]; omega)
        have Hln := Lib.hid hln
        clear hln
        by_cases h1 : i < n1
        · obtain ⟨b1, off1, t, rfl, d1, ht, hmt⟩ := KT.out h1
          obtain ⟨tA, tc, tb⟩ := t
          dsimp only at d1 ht hmt
          generalize htn : tb.length = tn at *
          have Ht := Lib.hid ht
          have Hmt := Lib.hid hmt
          have Htn := Lib.hid htn
          clear ht hmt htn
          by_cases h100 : 100 < tn
          · go_wp2_with fail
            go_ret
            exact ⟨rfl, Hbel.out⟩
          · go_wp2_with fail
            refine (putbytes_p Ab mb cb _ (k : Int) tA tn tc tb wr Hsl.out Ht.out (by omega) (by omega)).mono ?_
            rintro e w4 ⟨A4, m4, c4, rfl, s4, b4⟩
            rw [putsB_one_txt k tb hk1 hk2] at s4
            have hst : Sl w4 A4 m4 c4 (nats .u8 (putsB (altN k l m (i + 1)))) := by
              show Sl w4 A4 m4 c4 (nats .u8 (putsB (altN k l m i ++ (oneN k l[i]? ++ oneT k m[i]?))))
              rw [Hln.out, Hmt.out, putsB_append]
              exact s4
            have Hst := Lib.hid hst
            have Hb4 := Lib.hid (Hbel.out.trans (b4.mono Hbel.out.size))
            have H101 : Hid (∀ j, j < i + 1 → ∀ b, m[j]? = some b → b.length ≤ 100) := fun j hj b hb => by
              rcases Nat.lt_or_ge j i with h | h
              · exact H100.out j h b hb
              · obtain rfl : j = i := by omega
                rw [Hmt.out] at hb
                cases hb
                rw [Htn.out]; omega
            clear s4 b4 hst
            go_wp2_with fail
            exact ⟨⟨i + 1, m4, c4, A4, by omega, by go_num, rfl, Hst.out, H101.out, Hb4.out⟩, by simp only [intOf]; omega⟩
        · have hi0 : l.length ≤ i := by rw [Hlen0.out]; omega
          have hi1 : m.length ≤ i := by rw [Hm.out, List.length_map, Hlen1.out]; omega
          have hk3 : i ≤ 40 := by omega
          have hpar : parS (putsB (altN k l m i)) = (putsF 0 (altN k l m i), 0) := parS_puts _ (fun p hp => (Hok.out.1 p hp).1) (by rw [Hmb.out]; omega) (by have := Hok.out.2; omega)
          have hbyte := altN_byte k l m i (fun p hp => (Hok.out.1 p hp).1) (fun b hb => by
            rw [Hm.out] at hb
            obtain ⟨t, ht, rfl⟩ := List.mem_map.1 hb
            exact Hr.out.b8 t ht)
          have hin := parS_in _ hbyte
          have hu := alt_u k l m i hi0
          have hb := alt_b k l m i hi1
          have hno := alt_none k l m i
          have hall : allF (putsF 0 (altN k l m i)) (k : Int) = m := by rw [allF_txt, altN_txts, List.take_of_length_le hi1]
          have hp3 := parse_p Ab mb cb _ wr Hsl.out hbyte (by omega)
          rw [hpar] at hp3 hin
          rw [Hmb.out] at hin
          generalize putsF 0 (altN k l m i) = fs at *
          have Hp3 := Lib.hid hp3
          have Hin := Lib.hid hin
          have Hu := Lib.hid hu
          have Hbb := Lib.hid hb
          have Hno := Lib.hid hno
          have Hall := Lib.hid hall
          clear hpar hbyte hin hu hb hno hall hp3 hi0 hi1 Hok Hmb KT KN H100
          go_wp2_with fail
          refine Hp3.out.mono ?_
          rintro e w3 ⟨F, mm, cF, ps, rfl, hfl, hps, b3⟩
          dsimp only at hps
          have hpin : ∀ p ∈ ps, p.f.In mb := fun p hp => Hin.out.1 p.f (by rw [← hps]; exact List.mem_map_of_mem hp)
          have hmm : mm ≤ 4096 := by
            have h1 := Hin.out.2
            have h2 := congrArg List.length hps
            rw [List.length_map, hfl.hl] at h2
            omega
          have Hpin := Lib.hid hpin
          have Hfl := Lib.hid hfl
          have Hps := Lib.hid hps
          have hu4 := uint_p F mm cF ps (k : Int) w3 hfl (by omega)
          rw [hps, Hu.out.1, Hu.out.2] at hu4
          have Hu4 := Lib.hid hu4
          have Hb3 := Lib.hid (Hbel.out.trans (b3.mono Hbel.out.size))
          clear hpin hfl hps hu4 b3
          generalize hub : l.getLast?.getD 0 = ub at *
          generalize huo : l.getLast?.isSome = uo at *
          have Hub := Lib.hid hub
          have Huo := Lib.hid huo
          clear hub huo
          go_wp2_with fail
          refine Hu4.out.mono ?_
          rintro e w4 ⟨rfl, b4⟩
          have ht5 := text_p F mm cF ps (k : Int) w4 (Hfl.out.keep b4) (by omega) (fun p hp => by have := (Hpin.out p hp).bl; omega)
          rw [Hps.out, Hbb.out.1, Hbb.out.2] at ht5
          generalize htb : m.getLast?.getD [] = tb at *
          generalize hto : m.getLast?.isSome = tbo at *
          have Htb := Lib.hid htb
          have Hto := Lib.hid hto
          have Ht5 := Lib.hid ht5
          have Hb4 := Lib.hid b4
          clear htb hto ht5 b4
          go_wp2_with fail
          refine Ht5.out.mono ?_
          rintro e w5 ⟨B5, c5, m5, rfl, hm5, t5, b5⟩
          subst hm5
          generalize htbl : tb.length = tbl at *
          have Htbl := Lib.hid htbl
          have ha6 := all_f F mm cF ps (k : Int) w5 (Hfl.out.keep (below_trans' Hb4.out b5)) (by omega) (fun p hp => by have := (Hpin.out p hp).bl; omega)
          rw [Hps.out, Hall.out] at ha6
          have Ha6 := Lib.hid ha6
          have Ht := Lib.hid t5
          have Hb5 := Lib.hid (below_trans' Hb4.out b5)
          clear ha6 t5 b5 htbl
          go_wp2_with fail
          refine Ha6.out.mono ?_
          rintro e w6 ⟨X, mx, cX, tx, rfl, hx, htx, b6⟩
          have hmx : mx = n1 := by
            have h1 := hx.sl.len
            have h2 := congrArg List.length htx
            rw [Hm.out, List.length_map, List.length_map, Hlen1.out] at h2
            rw [List.length_map] at h1
            omega
          subst hmx
          have hu7 := uint_p F mm cF ps ((k : Int) + 1) w6 (Hfl.out.keep (below_trans' Hb5.out b6)) (by omega)
          rw [Hps.out, Hno.out] at hu7
          have Hu7 := Lib.hid hu7
          have Hx := Lib.hid hx
          have Htx := Lib.hid htx
          have Hb6 := Lib.hid b6
          clear hu7 hx htx b6
          go_wp2_with fail
          refine Hu7.out.mono ?_
          rintro e w7 ⟨rfl, b7⟩
          generalize uOf (lastF fs ((k : Int) + 1) 0) = un at *
          have Hb57 := Lib.hid (below_trans' Hb6.out b7)
          have Hb67 := Lib.hid b7
          have Hb37 := Lib.hid (below_trans' Hb5.out Hb57.out)
          have Hb7 := Lib.hid (Hb3.out.trans (Hb37.out.mono Hb3.out.size))
          clear b7
          by_cases z0 : 0 < n0
          · by_cases z1 : 0 < mx
            · clear Hu4 Ht5 Ha6 Hu7 Hp3 Hin Hpin
              have hn0 : 0 < n0 := by omega
              have hd0 : (decide (0 < n0)) = true := by simp; omega
              obtain ⟨b0, off0, rfl, hbw0, hcell0⟩ := (Hs.out.keep Hb7.out).at_ hn0
              have hl0 := last_at l n0 Hlen0.out hn0
              have hil : n0 - 1 < l.length := by rw [Hlen0.out]; omega
              have huo : uo = true := by rw [← Huo.out, hl0, List.getElem?_eq_getElem hil]; rfl
              have hub : ub = l[n0 - 1] := by rw [← Hub.out, hl0, List.getElem?_eq_getElem hil]; rfl
              have e0 := hcell0 (n0 - 1) (by omega)
              rw [nats_getD _ _ _ hil, PackMath.getD_eq _ _ hil, ← hub] at e0
              subst huo
              have E0 := Lib.hid e0
              clear hcell0 hl0 hil hub e0
              have hn1 : 0 < mx := by omega
              have hd1 : (decide (0 < mx)) = true := by simp; omega
              obtain ⟨b1, off1, rfl, hbw1, hcell1⟩ := (Hr.out.sl.keep Hb7.out).at_ hn1
              have hml : m.length = mx := by rw [Hm.out, List.length_map, Hlen1.out]
              have hm0 := last_at m mx hml hn1
              have hit : mx - 1 < ts.length := by rw [Hlen1.out]; omega
              have hmt : m[mx - 1]? = some (ts[mx - 1]).b := by rw [Hm.out]; simp [hit]
              have hto : tbo = true := by rw [← Hto.out, hm0, hmt]; rfl
              have htb : tb = (ts[mx - 1]).b := by rw [← Htb.out, hm0, hmt]; rfl
              have e1 := hcell1 (mx - 1) (by omega)
              rw [ta_getD ts _ hit] at e1
              have s1 := (Hr.out.txt _ (List.getElem_mem hit)).keep Hb7.out
              generalize ts[mx - 1] = tl at *
              obtain ⟨lA, lc, lb⟩ := tl
              dsimp only at htb e1 s1
              subst htb
              subst hto
              have E1 := Lib.hid e1
              have S1 := Lib.hid s1
              clear hcell1 hm0 hit hmt e1 s1 hml
              go_wp2_with fail
              go_loopw [18] (fun iv wr => ∃ j : Nat, j ≤ mx ∧ iv = .int .i64 (j : Int) ∧ ∃ q, wr = w7.drewN q) (fun iv _ => mx - (intOf iv).toNat)
              case atStart => exact ⟨0, Nat.zero_le _, rfl, 0, rfl⟩
              case round =>
                obtain ⟨j, hj, rfl, q, rfl⟩ := hrel
                by_cases hlt2 : j < mx
                · obtain ⟨bx, ox, rfl, hbx, hcx⟩ := (Hx.out.sl.keep (drewN_drew_below Hb67.out q)).at_ (by omega)
                  obtain ⟨br, or, hbr, _, hcr⟩ := (Hr.out.sl.keep (drewN_drew_below Hb7.out q)).at_ (by omega)
                  injection hbr with hbr
                  injection hbr with hbr1 hbr2
                  subst hbr1 hbr2
                  have hjx : j < tx.length := by have := Hx.out.sl.len; rw [List.length_map] at this; omega
                  have hjt : j < ts.length := by rw [Hlen1.out]; omega
                  have k1 := hcx j hlt2
                  have k2 := hcr j hlt2
                  rw [ta_getD tx j hjx] at k1
                  rw [ta_getD ts j hjt] at k2
                  have hsame : tx[j].b = ts[j].b := by
                    have h1 := congrArg (fun z : List (List Nat) => z[j]?) (Htx.out.trans Hm.out)
                    simpa [hjx, hjt] using h1
                  have sx := ((Hx.out.txt _ (List.getElem_mem hjx)).keep (drewN_drew_below Hb67.out q)).sl
                  have sr := (Hr.out.txt _ (List.getElem_mem hjt)).keep (drewN_drew_below Hb7.out q)
                  generalize tx[j] = x at *
                  generalize ts[j] = y at *
                  obtain ⟨xA, xc, xb⟩ := x
                  obtain ⟨yA, yc, yb⟩ := y
                  dsimp only at k1 k2 hsame sx sr
                  subst hsame
                  unfold TA.v at k1 k2
                  dsimp only at k1 k2
                  have q1 := run_convert_sl (P := Try.prog) Try.underlying22 Try.underlying5 Try.underlying9 sx
                  have q2 := run_convert_sl (P := Try.prog) Try.underlying22 Try.underlying5 Try.underlying9 sr
                  generalize strOf xb = str at *
                  generalize xb.length = xl at *
                  have q3 : (convert 22 9 (.slice xA xl xc)).run Try.prog (w7.drewN (q + 1)) = .ok (.string str) (w7.drewN (q + 1)) := q1
                  have q4 : (convert 22 9 (.slice yA xl yc)).run Try.prog (w7.drewN (q + 1)) = .ok (.string str) (w7.drewN (q + 1)) := q2
                  have k3 : w7.cell? ⟨bx, ox + j, none⟩ = _ := k1
                  have k4 : w7.cell? ⟨b1, off1 + j, none⟩ = _ := k2
                  clear hcx hcr sx sr hjx hjt
                  go_wp2_with fail
                  go_region
                  all_goals go_wp2_with fail
                  all_goals (refine ⟨⟨j + 1, by omega, by go_num, q + 1, rfl⟩, by simp only [intOf]; omega⟩)
                · have hfin := Hb7.out.trans ((below_drewN w7 q).mono Hb7.out.size)
                  have Hfin := Lib.hid hfin
                  clear hfin
                  have d2 : (w7.drewN q).cell? ⟨b0, off0 + (n0 - 1), none⟩ = some (.int .u64 (ub : Int)) := E0.out
                  have hlt0 := World.block_lt_of_cell? _ _ d2
                  have D2 := Lib.hid d2
                  clear d2
                  have d3 : (w7.drewN q).cell? ⟨b1, off1 + (mx - 1), none⟩ = some (.slice lA tb.length lc) := E1.out
                  rw [Htbl.out] at d3
                  have hlt1 := World.block_lt_of_cell? _ _ d3
                  have D3 := Lib.hid d3
                  have hsB : Sl (w7.drewN q) B5 tbl c5 (nats .u8 tb) := by have := (Ht.out.keep (Hb57.out.trans ((below_drewN w7 q).mono Hb57.out.size))).sl; rw [Htbl.out] at this; exact this
                  have hsL : Sl (w7.drewN q) lA tbl lc (nats .u8 tb) := by have := S1.out.keep (below_drewN w7 q); rw [Htbl.out] at this; exact this
                  have HsB := Lib.hid hsB
                  have HsL := Lib.hid hsL
                  clear d3 hsB hsL
                  go_wp2_with fail
                  have d2 := D2.out
                  have d3 := D3.out
                  have hsB := HsB.out
                  have hsL := HsL.out
                  refine region_all _ [Fact.is (.bool true), Fact.is (.bool false), Fact.is (.bool false), Fact.is (.int .u64 (ub : Int)), Fact.is (.slice (some ⟨b0, off0, none⟩) n0 c0), Fact.is (.slice (some ⟨b0, off0, none⟩) n0 c0), Fact.is (.int .i64 (n0 : Int)), Fact.is (.int .i64 ((n0 - 1 : Nat) : Int)), Fact.is (.pointer (some ⟨b0, off0 + (n0 - 1), none⟩)), Fact.is (.int .u64 (ub : Int)), Fact.is (.bool true), Fact.is (.bool true), Fact.is (.bool true), Fact.is (.bool true), Fact.is (.bool false), Fact.is (.bool false), Fact.sl tbl (nats .u8 tb), Fact.is (.string (strOf tb)), Fact.is (.slice (some ⟨b1, off1, none⟩) mx c1), Fact.is (.slice (some ⟨b1, off1, none⟩) mx c1), Fact.is (.int .i64 (mx : Int)), Fact.is (.int .i64 ((mx - 1 : Nat) : Int)), Fact.is (.pointer (some ⟨b1, off1 + (mx - 1), none⟩)), Fact.sl tbl (nats .u8 tb), Fact.is (.string (strOf tb)), Fact.is (.bool true), Fact.is (.bool true), Fact.is (.bool true), Fact.is (.bool true)] [[(12, none)], [(147, some 0)], [(148, some 1)], [(11, none)], [(0, none)], [(0, none)], [(152, some 5)], [(153, some 6)], [(151, some 4), (154, some 7)], [(155, some 8)], [(150, some 3), (156, some 9)], [(149, some 2), (157, some 10)], [(158, some 11)], [(14, none)], [(160, some 13)], [(161, some 14)], [(13, none)], [(163, some 16)], [(1, none)], [(1, none)], [(166, some 19)], [(167, some 20)], [(165, some 18), (168, some 21)], [(169, some 22)], [(170, some 23)], [(164, some 17), (171, some 24)], [(162, some 15), (172, some 25)], [(159, some 12), (173, some 26)], [(174, some 27)]] [true, true, true, true, true, true, true, true, true, true, true, true, true, true, true, true, true, true, true, true, true, true, true, true, true, true, true, true, true] (by kernel_rfl) (by kernel_rfl) ⟨⟨?_, ?_⟩, ⟨?_, ?_⟩, ⟨?_, ?_⟩, ⟨?_, ?_⟩, ⟨?_, ?_⟩, ⟨?_, ?_⟩, ⟨?_, ?_⟩, ⟨?_, ?_⟩, ⟨?_, ?_⟩, ⟨?_, ?_⟩, ⟨?_, ?_⟩, ⟨?_, ?_⟩, ⟨?_, ?_⟩, ⟨?_, ?_⟩, ⟨?_, ?_⟩, ⟨?_, ?_⟩, ⟨?_, ?_⟩, ⟨?_, ?_⟩, ⟨?_, ?_⟩, ⟨?_, ?_⟩, ⟨?_, ?_⟩, ⟨?_, ?_⟩, ⟨?_, ?_⟩, ⟨?_, ?_⟩, ⟨?_, ?_⟩, ⟨?_, ?_⟩, ⟨?_, ?_⟩, ⟨?_, ?_⟩, ⟨?_, ?_⟩, trivial⟩ ?_
                  · intro ρ w' hc hB h12
                    refine chain_run rfl ?_
                    exact opk_move rfl ⟨Below.refl _ _, h12⟩
                  · exact rfl
                  · intro ρ w' hc hB h147
                    refine chain_run rfl ?_
                    exact opk_not rfl h147 ⟨Below.refl _ _, rfl⟩
                  · exact rfl
                  · intro ρ w' hc hB h148
                    refine chain_run rfl ?_
                    exact opk_move rfl ⟨Below.refl _ _, h148⟩
                  · exact rfl
                  · intro ρ w' hc hB h11
                    refine chain_run rfl ?_
                    exact opk_move rfl ⟨Below.refl _ _, h11⟩
                  · exact fun v w h => ⟨false, h, rfl⟩
                  · intro ρ w' hc hB h0
                    refine chain_run rfl ?_
                    exact opk_move rfl ⟨Below.refl _ _, h0⟩
                  · exact fun v w h => ⟨false, h, rfl⟩
                  · intro ρ w' hc hB h0
                    refine chain_run rfl ?_
                    exact opk_move rfl ⟨Below.refl _ _, h0⟩
                  · exact fun v w h => ⟨false, h, rfl⟩
                  · intro ρ w' hc hB h152
                    refine chain_run rfl ?_
                    exact opk_len Try.underlying71 rfl h152 ⟨Below.refl _ _, rfl⟩
                  · exact fun v w h => ⟨false, h, rfl⟩
                  · intro ρ w' hc hB h153
                    refine chain_run rfl ?_
                    exact opk_sub_i64 rfl h153 (hc.1 _) (by omega) ⟨Below.refl _ _, congrArg (Value.int .i64) (by omega)⟩
                  · exact fun v w h => ⟨false, h, rfl⟩
                  · intro ρ w' hc hB h151 h154
                    refine chain_run rfl ?_
                    exact opk_idx Try.underlying71 Hi.out Hz1.out rfl h151 h154 (by omega) ⟨Below.refl _ _, by show _ = _; simp [add_none]⟩
                  · exact fun v w h => ⟨false, h, rfl⟩
                  · intro ρ w' hc hB h155
                    refine chain_run rfl ?_
                    exact opk_load_u64 rfl h155 ((hB.cell (p := ⟨b0, off0 + (n0 - 1), none⟩) hlt0).trans d2) ⟨Below.refl _ _, rfl⟩
                  · exact fun v w h => ⟨false, h, rfl⟩
                  · intro ρ w' hc hB h150 h156
                    refine chain_run rfl ?_
                    exact opk_eql_int rfl h150 h156 ⟨Below.refl _ _, congrArg Value.bool (by simp)⟩
                  · exact fun v w h => ⟨false, h, rfl⟩
                  · intro ρ w' hc hB h149 h157
                    refine chain_run rfl ?_
                    exact opk_pick rfl h149 ⟨Below.refl _ _, h157⟩
                  · exact rfl
                  · intro ρ w' hc hB h158
                    refine chain_run rfl ?_
                    exact opk_move rfl ⟨Below.refl _ _, h158⟩
                  · exact rfl
                  · intro ρ w' hc hB h14
                    refine chain_run rfl ?_
                    exact opk_move rfl ⟨Below.refl _ _, h14⟩
                  · exact fun v w h => ⟨true, h, rfl⟩
                  · intro ρ w' hc hB h160
                    refine chain_run rfl ?_
                    exact opk_not rfl h160 ⟨Below.refl _ _, rfl⟩
                  · exact fun v w h => ⟨true, h, rfl⟩
                  · intro ρ w' hc hB h161
                    refine chain_run rfl ?_
                    exact opk_move rfl ⟨Below.refl _ _, h161⟩
                  · exact fun v w h => ⟨true, h, rfl⟩
                  · intro ρ w' hc hB h13
                    refine chain_run rfl ?_
                    exact opk_move rfl ⟨Below.refl _ _, ⟨_, _, h13, (hsB).keep hB⟩⟩
                  · exact fun v w h => ⟨false, h, rfl⟩
                  · intro ρ w' hc hB h163
                    refine chain_run rfl ?_
                    obtain ⟨A_, c_, e_, s_⟩ := h163
                    exact opk_str rfl Try.underlying22 Try.underlying5 Try.underlying9 e_ s_ ⟨Below.refl _ _, rfl⟩
                  · exact fun v w h => ⟨false, h, rfl⟩
                  · intro ρ w' hc hB h1
                    refine chain_run rfl ?_
                    exact opk_move rfl ⟨Below.refl _ _, h1⟩
                  · exact fun v w h => ⟨false, h, rfl⟩
                  · intro ρ w' hc hB h1
                    refine chain_run rfl ?_
                    exact opk_move rfl ⟨Below.refl _ _, h1⟩
                  · exact fun v w h => ⟨false, h, rfl⟩
                  · intro ρ w' hc hB h166
                    refine chain_run rfl ?_
                    exact opk_len Try.underlying68 rfl h166 ⟨Below.refl _ _, rfl⟩
                  · exact fun v w h => ⟨false, h, rfl⟩
                  · intro ρ w' hc hB h167
                    refine chain_run rfl ?_
                    exact opk_sub_i64 rfl h167 (hc.1 _) (by omega) ⟨Below.refl _ _, congrArg (Value.int .i64) (by omega)⟩
                  · exact fun v w h => ⟨false, h, rfl⟩
                  · intro ρ w' hc hB h165 h168
                    refine chain_run rfl ?_
                    exact opk_idx Try.underlying68 Hj.out Hy1.out rfl h165 h168 (by omega) ⟨Below.refl _ _, by show _ = _; simp [add_none]⟩
                  · exact fun v w h => ⟨false, h, rfl⟩
                  · intro ρ w' hc hB h169
                    refine chain_run rfl ?_
                    exact opk_load_slice rfl h169 ((hB.cell (p := ⟨b1, off1 + (mx - 1), none⟩) hlt1).trans d3) ⟨Below.refl _ _, ⟨_, _, rfl, (hsL).keep hB⟩⟩
                  · exact fun v w h => ⟨false, h, rfl⟩
                  · intro ρ w' hc hB h170
                    refine chain_run rfl ?_
                    obtain ⟨A_, c_, e_, s_⟩ := h170
                    exact opk_str rfl Try.underlying22 Try.underlying5 Try.underlying9 e_ s_ ⟨Below.refl _ _, rfl⟩
                  · exact fun v w h => ⟨false, h, rfl⟩
                  · intro ρ w' hc hB h164 h171
                    refine chain_run rfl ?_
                    exact opk_eql_string rfl h164 h171 ⟨Below.refl _ _, congrArg Value.bool (by simp)⟩
                  · exact fun v w h => ⟨false, h, rfl⟩
                  · intro ρ w' hc hB h162 h172
                    refine chain_run rfl ?_
                    exact opk_pick rfl h162 ⟨Below.refl _ _, h172⟩
                  · exact fun v w h => ⟨true, h, rfl⟩
                  · intro ρ w' hc hB h159 h173
                    refine chain_run rfl ?_
                    exact opk_pick rfl h159 ⟨Below.refl _ _, h173⟩
                  · exact rfl
                  · intro ρ w' hc hB h174
                    refine chain_run rfl ?_
                    exact opk_assign rfl ⟨Below.refl _ _, h174⟩
                  · exact rfl
                  intro a' w' hbe hsz hd hF hU
                  have h6 : a'.tmps.getD 6 undef = .bool true := hF 28 _ 6 rfl rfl
                  go_wp2_with fail
                  refine bodyPost_ret (results_tmp rfl _ _ _) hd ?_
                  rw [h6]
                  exact ⟨rfl, Hfin.out.trans (hbe.mono Hfin.out.size)⟩
            · clear Hu4 Ht5 Ha6 Hu7 Hp3 Hin Hpin
              have hn0 : 0 < n0 := by omega
              have hd0 : (decide (0 < n0)) = true := by simp; omega
              obtain ⟨b0, off0, rfl, hbw0, hcell0⟩ := (Hs.out.keep Hb7.out).at_ hn0
              have hl0 := last_at l n0 Hlen0.out hn0
              have hil : n0 - 1 < l.length := by rw [Hlen0.out]; omega
              have huo : uo = true := by rw [← Huo.out, hl0, List.getElem?_eq_getElem hil]; rfl
              have hub : ub = l[n0 - 1] := by rw [← Hub.out, hl0, List.getElem?_eq_getElem hil]; rfl
              have e0 := hcell0 (n0 - 1) (by omega)
              rw [nats_getD _ _ _ hil, PackMath.getD_eq _ _ hil, ← hub] at e0
              subst huo
              have E0 := Lib.hid e0
              clear hcell0 hl0 hil hub e0
              have hd1 : (decide (0 < mx)) = false := by simp; omega
              have hml : m = [] := List.eq_nil_of_length_eq_zero (by rw [Hm.out, List.length_map, Hlen1.out]; omega)
              have hto : tbo = false := by rw [← Hto.out, hml]; rfl
              subst hto
              clear hml
              go_wp2_with fail
              go_loopw [18] (fun iv wr => ∃ j : Nat, j ≤ mx ∧ iv = .int .i64 (j : Int) ∧ ∃ q, wr = w7.drewN q) (fun iv _ => mx - (intOf iv).toNat)
              case atStart => exact ⟨0, Nat.zero_le _, rfl, 0, rfl⟩
              case round =>
                obtain ⟨j, hj, rfl, q, rfl⟩ := hrel
                by_cases hlt2 : j < mx
                · omega
                · have hfin := Hb7.out.trans ((below_drewN w7 q).mono Hb7.out.size)
                  have Hfin := Lib.hid hfin
                  clear hfin
                  have d2 : (w7.drewN q).cell? ⟨b0, off0 + (n0 - 1), none⟩ = some (.int .u64 (ub : Int)) := E0.out
                  have hlt0 := World.block_lt_of_cell? _ _ d2
                  have D2 := Lib.hid d2
                  clear d2
                  go_wp2_with fail
                  have d2 := D2.out
                  refine region_all _ [Fact.is (.bool true), Fact.is (.bool false), Fact.is (.bool false), Fact.is (.int .u64 (ub : Int)), Fact.is (.slice (some ⟨b0, off0, none⟩) n0 c0), Fact.is (.slice (some ⟨b0, off0, none⟩) n0 c0), Fact.is (.int .i64 (n0 : Int)), Fact.is (.int .i64 ((n0 - 1 : Nat) : Int)), Fact.is (.pointer (some ⟨b0, off0 + (n0 - 1), none⟩)), Fact.is (.int .u64 (ub : Int)), Fact.is (.bool true), Fact.is (.bool true), Fact.is (.bool true), Fact.is (.bool false), Fact.is (.bool true), Fact.is (.bool true), Fact.any, Fact.any, Fact.any, Fact.any, Fact.any, Fact.any, Fact.any, Fact.any, Fact.any, Fact.any, Fact.is (.bool true), Fact.is (.bool true), Fact.is (.bool true)] [[(12, none)], [(147, some 0)], [(148, some 1)], [(11, none)], [(0, none)], [(0, none)], [(152, some 5)], [(153, some 6)], [(151, some 4), (154, some 7)], [(155, some 8)], [(150, some 3), (156, some 9)], [(149, some 2), (157, some 10)], [(158, some 11)], [(14, none)], [(160, some 13)], [(161, some 14)], [(13, none)], [(163, some 16)], [(1, none)], [(1, none)], [(166, some 19)], [(167, some 20)], [(165, some 18), (168, some 21)], [(169, some 22)], [(170, some 23)], [(164, some 17), (171, some 24)], [(162, some 15), (172, some 25)], [(159, some 12), (173, some 26)], [(174, some 27)]] [true, true, true, true, true, true, true, true, true, true, true, true, true, true, true, true, false, false, false, false, false, false, false, false, false, false, true, true, true] (by kernel_rfl) (by kernel_rfl) ⟨⟨?_, ?_⟩, ⟨?_, ?_⟩, ⟨?_, ?_⟩, ⟨?_, ?_⟩, ⟨?_, ?_⟩, ⟨?_, ?_⟩, ⟨?_, ?_⟩, ⟨?_, ?_⟩, ⟨?_, ?_⟩, ⟨?_, ?_⟩, ⟨?_, ?_⟩, ⟨?_, ?_⟩, ⟨?_, ?_⟩, ⟨?_, ?_⟩, ⟨?_, ?_⟩, ⟨?_, ?_⟩, ⟨?_, ?_⟩, ⟨?_, ?_⟩, ⟨?_, ?_⟩, ⟨?_, ?_⟩, ⟨?_, ?_⟩, ⟨?_, ?_⟩, ⟨?_, ?_⟩, ⟨?_, ?_⟩, ⟨?_, ?_⟩, ⟨?_, ?_⟩, ⟨?_, ?_⟩, ⟨?_, ?_⟩, ⟨?_, ?_⟩, trivial⟩ ?_
                  · intro ρ w' hc hB h12
                    refine chain_run rfl ?_
                    exact opk_move rfl ⟨Below.refl _ _, h12⟩
                  · exact rfl
                  · intro ρ w' hc hB h147
                    refine chain_run rfl ?_
                    exact opk_not rfl h147 ⟨Below.refl _ _, rfl⟩
                  · exact rfl
                  · intro ρ w' hc hB h148
                    refine chain_run rfl ?_
                    exact opk_move rfl ⟨Below.refl _ _, h148⟩
                  · exact rfl
                  · intro ρ w' hc hB h11
                    refine chain_run rfl ?_
                    exact opk_move rfl ⟨Below.refl _ _, h11⟩
                  · exact fun v w h => ⟨false, h, rfl⟩
                  · intro ρ w' hc hB h0
                    refine chain_run rfl ?_
                    exact opk_move rfl ⟨Below.refl _ _, h0⟩
                  · exact fun v w h => ⟨false, h, rfl⟩
                  · intro ρ w' hc hB h0
                    refine chain_run rfl ?_
                    exact opk_move rfl ⟨Below.refl _ _, h0⟩
                  · exact fun v w h => ⟨false, h, rfl⟩
                  · intro ρ w' hc hB h152
                    refine chain_run rfl ?_
                    exact opk_len Try.underlying71 rfl h152 ⟨Below.refl _ _, rfl⟩
                  · exact fun v w h => ⟨false, h, rfl⟩
                  · intro ρ w' hc hB h153
                    refine chain_run rfl ?_
                    exact opk_sub_i64 rfl h153 (hc.1 _) (by omega) ⟨Below.refl _ _, congrArg (Value.int .i64) (by omega)⟩
                  · exact fun v w h => ⟨false, h, rfl⟩
                  · intro ρ w' hc hB h151 h154
                    refine chain_run rfl ?_
                    exact opk_idx Try.underlying71 Hi.out Hz1.out rfl h151 h154 (by omega) ⟨Below.refl _ _, by show _ = _; simp [add_none]⟩
                  · exact fun v w h => ⟨false, h, rfl⟩
                  · intro ρ w' hc hB h155
                    refine chain_run rfl ?_
                    exact opk_load_u64 rfl h155 ((hB.cell (p := ⟨b0, off0 + (n0 - 1), none⟩) hlt0).trans d2) ⟨Below.refl _ _, rfl⟩
                  · exact fun v w h => ⟨false, h, rfl⟩
                  · intro ρ w' hc hB h150 h156
                    refine chain_run rfl ?_
                    exact opk_eql_int rfl h150 h156 ⟨Below.refl _ _, congrArg Value.bool (by simp)⟩
                  · exact fun v w h => ⟨false, h, rfl⟩
                  · intro ρ w' hc hB h149 h157
                    refine chain_run rfl ?_
                    exact opk_pick rfl h149 ⟨Below.refl _ _, h157⟩
                  · exact rfl
                  · intro ρ w' hc hB h158
                    refine chain_run rfl ?_
                    exact opk_move rfl ⟨Below.refl _ _, h158⟩
                  · exact rfl
                  · intro ρ w' hc hB h14
                    refine chain_run rfl ?_
                    exact opk_move rfl ⟨Below.refl _ _, h14⟩
                  · exact fun v w h => ⟨true, h, rfl⟩
                  · intro ρ w' hc hB h160
                    refine chain_run rfl ?_
                    exact opk_not rfl h160 ⟨Below.refl _ _, rfl⟩
                  · exact fun v w h => ⟨true, h, rfl⟩
                  · intro ρ w' hc hB h161
                    refine chain_run rfl ?_
                    exact opk_move rfl ⟨Below.refl _ _, h161⟩
                  · exact fun v w h => ⟨true, h, rfl⟩
                  · intro ρ w' hc hB h13
                    exact chain_skip rfl trivial
                  · exact fun v w h => ⟨true, h, rfl⟩
                  · intro ρ w' hc hB h163
                    exact chain_skip rfl trivial
                  · exact fun v w h => ⟨true, h, rfl⟩
                  · intro ρ w' hc hB h1
                    exact chain_skip rfl trivial
                  · exact fun v w h => ⟨true, h, rfl⟩
                  · intro ρ w' hc hB h1
                    exact chain_skip rfl trivial
                  · exact fun v w h => ⟨true, h, rfl⟩
                  · intro ρ w' hc hB h166
                    exact chain_skip rfl trivial
                  · exact fun v w h => ⟨true, h, rfl⟩
                  · intro ρ w' hc hB h167
                    exact chain_skip rfl trivial
                  · exact fun v w h => ⟨true, h, rfl⟩
                  · intro ρ w' hc hB h165 h168
                    exact chain_skip rfl trivial
                  · exact fun v w h => ⟨true, h, rfl⟩
                  · intro ρ w' hc hB h169
                    exact chain_skip rfl trivial
                  · exact fun v w h => ⟨true, h, rfl⟩
                  · intro ρ w' hc hB h170
                    exact chain_skip rfl trivial
                  · exact fun v w h => ⟨true, h, rfl⟩
                  · intro ρ w' hc hB h164 h171
                    exact chain_skip rfl trivial
                  · exact fun v w h => ⟨true, h, rfl⟩
                  · intro ρ w' hc hB h162 h172
                    refine chain_run rfl ?_
                    exact opk_pick rfl h162 ⟨Below.refl _ _, hc.1 _⟩
                  · exact fun v w h => ⟨true, h, rfl⟩
                  · intro ρ w' hc hB h159 h173
                    refine chain_run rfl ?_
                    exact opk_pick rfl h159 ⟨Below.refl _ _, h173⟩
                  · exact rfl
                  · intro ρ w' hc hB h174
                    refine chain_run rfl ?_
                    exact opk_assign rfl ⟨Below.refl _ _, h174⟩
                  · exact rfl
                  intro a' w' hbe hsz hd hF hU
                  have h6 : a'.tmps.getD 6 undef = .bool true := hF 28 _ 6 rfl rfl
                  go_wp2_with fail
                  refine bodyPost_ret (results_tmp rfl _ _ _) hd ?_
                  rw [h6]
                  exact ⟨rfl, Hfin.out.trans (hbe.mono Hfin.out.size)⟩
          · by_cases z1 : 0 < mx
            · clear Hu4 Ht5 Ha6 Hu7 Hp3 Hin Hpin
              have hd0 : (decide (0 < n0)) = false := by simp; omega
              have hl0 : l = [] := List.eq_nil_of_length_eq_zero (by rw [Hlen0.out]; omega)
              have huo : uo = false := by rw [← Huo.out, hl0]; rfl
              subst huo
              clear hl0
              have hn1 : 0 < mx := by omega
              have hd1 : (decide (0 < mx)) = true := by simp; omega
              obtain ⟨b1, off1, rfl, hbw1, hcell1⟩ := (Hr.out.sl.keep Hb7.out).at_ hn1
              have hml : m.length = mx := by rw [Hm.out, List.length_map, Hlen1.out]
              have hm0 := last_at m mx hml hn1
              have hit : mx - 1 < ts.length := by rw [Hlen1.out]; omega
              have hmt : m[mx - 1]? = some (ts[mx - 1]).b := by rw [Hm.out]; simp [hit]
              have hto : tbo = true := by rw [← Hto.out, hm0, hmt]; rfl
              have htb : tb = (ts[mx - 1]).b := by rw [← Htb.out, hm0, hmt]; rfl
              have e1 := hcell1 (mx - 1) (by omega)
              rw [ta_getD ts _ hit] at e1
              have s1 := (Hr.out.txt _ (List.getElem_mem hit)).keep Hb7.out
              generalize ts[mx - 1] = tl at *
              obtain ⟨lA, lc, lb⟩ := tl
              dsimp only at htb e1 s1
              subst htb
              subst hto
              have E1 := Lib.hid e1
              have S1 := Lib.hid s1
              clear hcell1 hm0 hit hmt e1 s1 hml
              go_wp2_with fail
              go_loopw [18] (fun iv wr => ∃ j : Nat, j ≤ mx ∧ iv = .int .i64 (j : Int) ∧ ∃ q, wr = w7.drewN q) (fun iv _ => mx - (intOf iv).toNat)
              case atStart => exact ⟨0, Nat.zero_le _, rfl, 0, rfl⟩
              case round =>
                obtain ⟨j, hj, rfl, q, rfl⟩ := hrel
                by_cases hlt2 : j < mx
                · obtain ⟨bx, ox, rfl, hbx, hcx⟩ := (Hx.out.sl.keep (drewN_drew_below Hb67.out q)).at_ (by omega)
                  obtain ⟨br, or, hbr, _, hcr⟩ := (Hr.out.sl.keep (drewN_drew_below Hb7.out q)).at_ (by omega)
                  injection hbr with hbr
                  injection hbr with hbr1 hbr2
                  subst hbr1 hbr2
                  have hjx : j < tx.length := by have := Hx.out.sl.len; rw [List.length_map] at this; omega
                  have hjt : j < ts.length := by rw [Hlen1.out]; omega
                  have k1 := hcx j hlt2
                  have k2 := hcr j hlt2
                  rw [ta_getD tx j hjx] at k1
                  rw [ta_getD ts j hjt] at k2
                  have hsame : tx[j].b = ts[j].b := by
                    have h1 := congrArg (fun z : List (List Nat) => z[j]?) (Htx.out.trans Hm.out)
                    simpa [hjx, hjt] using h1
                  have sx := ((Hx.out.txt _ (List.getElem_mem hjx)).keep (drewN_drew_below Hb67.out q)).sl
                  have sr := (Hr.out.txt _ (List.getElem_mem hjt)).keep (drewN_drew_below Hb7.out q)
                  generalize tx[j] = x at *
                  generalize ts[j] = y at *
                  obtain ⟨xA, xc, xb⟩ := x
                  obtain ⟨yA, yc, yb⟩ := y
                  dsimp only at k1 k2 hsame sx sr
                  subst hsame
                  unfold TA.v at k1 k2
                  dsimp only at k1 k2
                  have q1 := run_convert_sl (P := Try.prog) Try.underlying22 Try.underlying5 Try.underlying9 sx
                  have q2 := run_convert_sl (P := Try.prog) Try.underlying22 Try.underlying5 Try.underlying9 sr
                  generalize strOf xb = str at *
                  generalize xb.length = xl at *
                  have q3 : (convert 22 9 (.slice xA xl xc)).run Try.prog (w7.drewN (q + 1)) = .ok (.string str) (w7.drewN (q + 1)) := q1
                  have q4 : (convert 22 9 (.slice yA xl yc)).run Try.prog (w7.drewN (q + 1)) = .ok (.string str) (w7.drewN (q + 1)) := q2
                  have k3 : w7.cell? ⟨bx, ox + j, none⟩ = _ := k1
                  have k4 : w7.cell? ⟨b1, off1 + j, none⟩ = _ := k2
                  clear hcx hcr sx sr hjx hjt
                  go_wp2_with fail
                  go_region
                  all_goals go_wp2_with fail
                  all_goals (refine ⟨⟨j + 1, by omega, by go_num, q + 1, rfl⟩, by simp only [intOf]; omega⟩)
                · have hfin := Hb7.out.trans ((below_drewN w7 q).mono Hb7.out.size)
                  have Hfin := Lib.hid hfin
                  clear hfin
                  have d3 : (w7.drewN q).cell? ⟨b1, off1 + (mx - 1), none⟩ = some (.slice lA tb.length lc) := E1.out
                  rw [Htbl.out] at d3
                  have hlt1 := World.block_lt_of_cell? _ _ d3
                  have D3 := Lib.hid d3
                  have hsB : Sl (w7.drewN q) B5 tbl c5 (nats .u8 tb) := by have := (Ht.out.keep (Hb57.out.trans ((below_drewN w7 q).mono Hb57.out.size))).sl; rw [Htbl.out] at this; exact this
                  have hsL : Sl (w7.drewN q) lA tbl lc (nats .u8 tb) := by have := S1.out.keep (below_drewN w7 q); rw [Htbl.out] at this; exact this
                  have HsB := Lib.hid hsB
                  have HsL := Lib.hid hsL
                  clear d3 hsB hsL
                  go_wp2_with fail
                  have d3 := D3.out
                  have hsB := HsB.out
                  have hsL := HsL.out
                  refine region_all _ [Fact.is (.bool false), Fact.is (.bool true), Fact.is (.bool true), Fact.any, Fact.any, Fact.any, Fact.any, Fact.any, Fact.any, Fact.any, Fact.any, Fact.is (.bool true), Fact.is (.bool true), Fact.is (.bool true), Fact.is (.bool false), Fact.is (.bool false), Fact.sl tbl (nats .u8 tb), Fact.is (.string (strOf tb)), Fact.is (.slice (some ⟨b1, off1, none⟩) mx c1), Fact.is (.slice (some ⟨b1, off1, none⟩) mx c1), Fact.is (.int .i64 (mx : Int)), Fact.is (.int .i64 ((mx - 1 : Nat) : Int)), Fact.is (.pointer (some ⟨b1, off1 + (mx - 1), none⟩)), Fact.sl tbl (nats .u8 tb), Fact.is (.string (strOf tb)), Fact.is (.bool true), Fact.is (.bool true), Fact.is (.bool true), Fact.is (.bool true)] [[(12, none)], [(147, some 0)], [(148, some 1)], [(11, none)], [(0, none)], [(0, none)], [(152, some 5)], [(153, some 6)], [(151, some 4), (154, some 7)], [(155, some 8)], [(150, some 3), (156, some 9)], [(149, some 2), (157, some 10)], [(158, some 11)], [(14, none)], [(160, some 13)], [(161, some 14)], [(13, none)], [(163, some 16)], [(1, none)], [(1, none)], [(166, some 19)], [(167, some 20)], [(165, some 18), (168, some 21)], [(169, some 22)], [(170, some 23)], [(164, some 17), (171, some 24)], [(162, some 15), (172, some 25)], [(159, some 12), (173, some 26)], [(174, some 27)]] [true, true, true, false, false, false, false, false, false, false, false, true, true, true, true, true, true, true, true, true, true, true, true, true, true, true, true, true, true] (by kernel_rfl) (by kernel_rfl) ⟨⟨?_, ?_⟩, ⟨?_, ?_⟩, ⟨?_, ?_⟩, ⟨?_, ?_⟩, ⟨?_, ?_⟩, ⟨?_, ?_⟩, ⟨?_, ?_⟩, ⟨?_, ?_⟩, ⟨?_, ?_⟩, ⟨?_, ?_⟩, ⟨?_, ?_⟩, ⟨?_, ?_⟩, ⟨?_, ?_⟩, ⟨?_, ?_⟩, ⟨?_, ?_⟩, ⟨?_, ?_⟩, ⟨?_, ?_⟩, ⟨?_, ?_⟩, ⟨?_, ?_⟩, ⟨?_, ?_⟩, ⟨?_, ?_⟩, ⟨?_, ?_⟩, ⟨?_, ?_⟩, ⟨?_, ?_⟩, ⟨?_, ?_⟩, ⟨?_, ?_⟩, ⟨?_, ?_⟩, ⟨?_, ?_⟩, ⟨?_, ?_⟩, trivial⟩ ?_
                  · intro ρ w' hc hB h12
                    refine chain_run rfl ?_
                    exact opk_move rfl ⟨Below.refl _ _, h12⟩
                  · exact rfl
                  · intro ρ w' hc hB h147
                    refine chain_run rfl ?_
                    exact opk_not rfl h147 ⟨Below.refl _ _, rfl⟩
                  · exact rfl
                  · intro ρ w' hc hB h148
                    refine chain_run rfl ?_
                    exact opk_move rfl ⟨Below.refl _ _, h148⟩
                  · exact rfl
                  · intro ρ w' hc hB h11
                    exact chain_skip rfl trivial
                  · exact fun v w h => ⟨true, h, rfl⟩
                  · intro ρ w' hc hB h0
                    exact chain_skip rfl trivial
                  · exact fun v w h => ⟨true, h, rfl⟩
                  · intro ρ w' hc hB h0
                    exact chain_skip rfl trivial
                  · exact fun v w h => ⟨true, h, rfl⟩
                  · intro ρ w' hc hB h152
                    exact chain_skip rfl trivial
                  · exact fun v w h => ⟨true, h, rfl⟩
                  · intro ρ w' hc hB h153
                    exact chain_skip rfl trivial
                  · exact fun v w h => ⟨true, h, rfl⟩
                  · intro ρ w' hc hB h151 h154
                    exact chain_skip rfl trivial
                  · exact fun v w h => ⟨true, h, rfl⟩
                  · intro ρ w' hc hB h155
                    exact chain_skip rfl trivial
                  · exact fun v w h => ⟨true, h, rfl⟩
                  · intro ρ w' hc hB h150 h156
                    exact chain_skip rfl trivial
                  · exact fun v w h => ⟨true, h, rfl⟩
                  · intro ρ w' hc hB h149 h157
                    refine chain_run rfl ?_
                    exact opk_pick rfl h149 ⟨Below.refl _ _, hc.1 _⟩
                  · exact rfl
                  · intro ρ w' hc hB h158
                    refine chain_run rfl ?_
                    exact opk_move rfl ⟨Below.refl _ _, h158⟩
                  · exact rfl
                  · intro ρ w' hc hB h14
                    refine chain_run rfl ?_
                    exact opk_move rfl ⟨Below.refl _ _, h14⟩
                  · exact fun v w h => ⟨true, h, rfl⟩
                  · intro ρ w' hc hB h160
                    refine chain_run rfl ?_
                    exact opk_not rfl h160 ⟨Below.refl _ _, rfl⟩
                  · exact fun v w h => ⟨true, h, rfl⟩
                  · intro ρ w' hc hB h161
                    refine chain_run rfl ?_
                    exact opk_move rfl ⟨Below.refl _ _, h161⟩
                  · exact fun v w h => ⟨true, h, rfl⟩
                  · intro ρ w' hc hB h13
                    refine chain_run rfl ?_
                    exact opk_move rfl ⟨Below.refl _ _, ⟨_, _, h13, (hsB).keep hB⟩⟩
                  · exact fun v w h => ⟨false, h, rfl⟩
                  · intro ρ w' hc hB h163
                    refine chain_run rfl ?_
                    obtain ⟨A_, c_, e_, s_⟩ := h163
                    exact opk_str rfl Try.underlying22 Try.underlying5 Try.underlying9 e_ s_ ⟨Below.refl _ _, rfl⟩
                  · exact fun v w h => ⟨false, h, rfl⟩
                  · intro ρ w' hc hB h1
                    refine chain_run rfl ?_
                    exact opk_move rfl ⟨Below.refl _ _, h1⟩
                  · exact fun v w h => ⟨false, h, rfl⟩
                  · intro ρ w' hc hB h1
                    refine chain_run rfl ?_
                    exact opk_move rfl ⟨Below.refl _ _, h1⟩
                  · exact fun v w h => ⟨false, h, rfl⟩
                  · intro ρ w' hc hB h166
                    refine chain_run rfl ?_
                    exact opk_len Try.underlying68 rfl h166 ⟨Below.refl _ _, rfl⟩
                  · exact fun v w h => ⟨false, h, rfl⟩
                  · intro ρ w' hc hB h167
                    refine chain_run rfl ?_
                    exact opk_sub_i64 rfl h167 (hc.1 _) (by omega) ⟨Below.refl _ _, congrArg (Value.int .i64) (by omega)⟩
                  · exact fun v w h => ⟨false, h, rfl⟩
                  · intro ρ w' hc hB h165 h168
                    refine chain_run rfl ?_
                    exact opk_idx Try.underlying68 Hj.out Hy1.out rfl h165 h168 (by omega) ⟨Below.refl _ _, by show _ = _; simp [add_none]⟩
                  · exact fun v w h => ⟨false, h, rfl⟩
                  · intro ρ w' hc hB h169
                    refine chain_run rfl ?_
                    exact opk_load_slice rfl h169 ((hB.cell (p := ⟨b1, off1 + (mx - 1), none⟩) hlt1).trans d3) ⟨Below.refl _ _, ⟨_, _, rfl, (hsL).keep hB⟩⟩
                  · exact fun v w h => ⟨false, h, rfl⟩
                  · intro ρ w' hc hB h170
                    refine chain_run rfl ?_
                    obtain ⟨A_, c_, e_, s_⟩ := h170
                    exact opk_str rfl Try.underlying22 Try.underlying5 Try.underlying9 e_ s_ ⟨Below.refl _ _, rfl⟩
                  · exact fun v w h => ⟨false, h, rfl⟩
                  · intro ρ w' hc hB h164 h171
                    refine chain_run rfl ?_
                    exact opk_eql_string rfl h164 h171 ⟨Below.refl _ _, congrArg Value.bool (by simp)⟩
                  · exact fun v w h => ⟨false, h, rfl⟩
                  · intro ρ w' hc hB h162 h172
                    refine chain_run rfl ?_
                    exact opk_pick rfl h162 ⟨Below.refl _ _, h172⟩
                  · exact fun v w h => ⟨true, h, rfl⟩
                  · intro ρ w' hc hB h159 h173
                    refine chain_run rfl ?_
                    exact opk_pick rfl h159 ⟨Below.refl _ _, h173⟩
                  · exact rfl
                  · intro ρ w' hc hB h174
                    refine chain_run rfl ?_
                    exact opk_assign rfl ⟨Below.refl _ _, h174⟩
                  · exact rfl
                  intro a' w' hbe hsz hd hF hU
                  have h6 : a'.tmps.getD 6 undef = .bool true := hF 28 _ 6 rfl rfl
                  go_wp2_with fail
                  refine bodyPost_ret (results_tmp rfl _ _ _) hd ?_
                  rw [h6]
                  exact ⟨rfl, Hfin.out.trans (hbe.mono Hfin.out.size)⟩
            · clear Hu4 Ht5 Ha6 Hu7 Hp3 Hin Hpin
              have hd0 : (decide (0 < n0)) = false := by simp; omega
              have hl0 : l = [] := List.eq_nil_of_length_eq_zero (by rw [Hlen0.out]; omega)
              have huo : uo = false := by rw [← Huo.out, hl0]; rfl
              subst huo
              clear hl0
              have hd1 : (decide (0 < mx)) = false := by simp; omega
              have hml : m = [] := List.eq_nil_of_length_eq_zero (by rw [Hm.out, List.length_map, Hlen1.out]; omega)
              have hto : tbo = false := by rw [← Hto.out, hml]; rfl
              subst hto
              clear hml
              go_wp2_with fail
              go_loopw [18] (fun iv wr => ∃ j : Nat, j ≤ mx ∧ iv = .int .i64 (j : Int) ∧ ∃ q, wr = w7.drewN q) (fun iv _ => mx - (intOf iv).toNat)
              case atStart => exact ⟨0, Nat.zero_le _, rfl, 0, rfl⟩
              case round =>
                obtain ⟨j, hj, rfl, q, rfl⟩ := hrel
                by_cases hlt2 : j < mx
                · omega
                · have hfin := Hb7.out.trans ((below_drewN w7 q).mono Hb7.out.size)
                  have Hfin := Lib.hid hfin
                  clear hfin
                  go_wp2_with fail
                  refine region_all _ [Fact.is (.bool false), Fact.is (.bool true), Fact.is (.bool true), Fact.any, Fact.any, Fact.any, Fact.any, Fact.any, Fact.any, Fact.any, Fact.any, Fact.is (.bool true), Fact.is (.bool true), Fact.is (.bool false), Fact.is (.bool true), Fact.is (.bool true), Fact.any, Fact.any, Fact.any, Fact.any, Fact.any, Fact.any, Fact.any, Fact.any, Fact.any, Fact.any, Fact.is (.bool true), Fact.is (.bool true), Fact.is (.bool true)] [[(12, none)], [(147, some 0)], [(148, some 1)], [(11, none)], [(0, none)], [(0, none)], [(152, some 5)], [(153, some 6)], [(151, some 4), (154, some 7)], [(155, some 8)], [(150, some 3), (156, some 9)], [(149, some 2), (157, some 10)], [(158, some 11)], [(14, none)], [(160, some 13)], [(161, some 14)], [(13, none)], [(163, some 16)], [(1, none)], [(1, none)], [(166, some 19)], [(167, some 20)], [(165, some 18), (168, some 21)], [(169, some 22)], [(170, some 23)], [(164, some 17), (171, some 24)], [(162, some 15), (172, some 25)], [(159, some 12), (173, some 26)], [(174, some 27)]] [true, true, true, false, false, false, false, false, false, false, false, true, true, true, true, true, false, false, false, false, false, false, false, false, false, false, true, true, true] (by kernel_rfl) (by kernel_rfl) ⟨⟨?_, ?_⟩, ⟨?_, ?_⟩, ⟨?_, ?_⟩, ⟨?_, ?_⟩, ⟨?_, ?_⟩, ⟨?_, ?_⟩, ⟨?_, ?_⟩, ⟨?_, ?_⟩, ⟨?_, ?_⟩, ⟨?_, ?_⟩, ⟨?_, ?_⟩, ⟨?_, ?_⟩, ⟨?_, ?_⟩, ⟨?_, ?_⟩, ⟨?_, ?_⟩, ⟨?_, ?_⟩, ⟨?_, ?_⟩, ⟨?_, ?_⟩, ⟨?_, ?_⟩, ⟨?_, ?_⟩, ⟨?_, ?_⟩, ⟨?_, ?_⟩, ⟨?_, ?_⟩, ⟨?_, ?_⟩, ⟨?_, ?_⟩, ⟨?_, ?_⟩, ⟨?_, ?_⟩, ⟨?_, ?_⟩, ⟨?_, ?_⟩, trivial⟩ ?_
                  · intro ρ w' hc hB h12
                    refine chain_run rfl ?_
                    exact opk_move rfl ⟨Below.refl _ _, h12⟩
                  · exact rfl
                  · intro ρ w' hc hB h147
                    refine chain_run rfl ?_
                    exact opk_not rfl h147 ⟨Below.refl _ _, rfl⟩
                  · exact rfl
                  · intro ρ w' hc hB h148
                    refine chain_run rfl ?_
                    exact opk_move rfl ⟨Below.refl _ _, h148⟩
                  · exact rfl
                  · intro ρ w' hc hB h11
                    exact chain_skip rfl trivial
                  · exact fun v w h => ⟨true, h, rfl⟩
                  · intro ρ w' hc hB h0
                    exact chain_skip rfl trivial
                  · exact fun v w h => ⟨true, h, rfl⟩
                  · intro ρ w' hc hB h0
                    exact chain_skip rfl trivial
                  · exact fun v w h => ⟨true, h, rfl⟩
                  · intro ρ w' hc hB h152
                    exact chain_skip rfl trivial
                  · exact fun v w h => ⟨true, h, rfl⟩
                  · intro ρ w' hc hB h153
                    exact chain_skip rfl trivial
                  · exact fun v w h => ⟨true, h, rfl⟩
                  · intro ρ w' hc hB h151 h154
                    exact chain_skip rfl trivial
                  · exact fun v w h => ⟨true, h, rfl⟩
                  · intro ρ w' hc hB h155
                    exact chain_skip rfl trivial
                  · exact fun v w h => ⟨true, h, rfl⟩
                  · intro ρ w' hc hB h150 h156
                    exact chain_skip rfl trivial
                  · exact fun v w h => ⟨true, h, rfl⟩
                  · intro ρ w' hc hB h149 h157
                    refine chain_run rfl ?_
                    exact opk_pick rfl h149 ⟨Below.refl _ _, hc.1 _⟩
                  · exact rfl
                  · intro ρ w' hc hB h158
                    refine chain_run rfl ?_
                    exact opk_move rfl ⟨Below.refl _ _, h158⟩
                  · exact rfl
                  · intro ρ w' hc hB h14
                    refine chain_run rfl ?_
                    exact opk_move rfl ⟨Below.refl _ _, h14⟩
                  · exact fun v w h => ⟨true, h, rfl⟩
                  · intro ρ w' hc hB h160
                    refine chain_run rfl ?_
                    exact opk_not rfl h160 ⟨Below.refl _ _, rfl⟩
                  · exact fun v w h => ⟨true, h, rfl⟩
                  · intro ρ w' hc hB h161
                    refine chain_run rfl ?_
                    exact opk_move rfl ⟨Below.refl _ _, h161⟩
                  · exact fun v w h => ⟨true, h, rfl⟩
                  · intro ρ w' hc hB h13
                    exact chain_skip rfl trivial
                  · exact fun v w h => ⟨true, h, rfl⟩
                  · intro ρ w' hc hB h163
                    exact chain_skip rfl trivial
                  · exact fun v w h => ⟨true, h, rfl⟩
                  · intro ρ w' hc hB h1
                    exact chain_skip rfl trivial
                  · exact fun v w h => ⟨true, h, rfl⟩
                  · intro ρ w' hc hB h1
                    exact chain_skip rfl trivial
                  · exact fun v w h => ⟨true, h, rfl⟩
                  · intro ρ w' hc hB h166
                    exact chain_skip rfl trivial
                  · exact fun v w h => ⟨true, h, rfl⟩
                  · intro ρ w' hc hB h167
                    exact chain_skip rfl trivial
                  · exact fun v w h => ⟨true, h, rfl⟩
                  · intro ρ w' hc hB h165 h168
                    exact chain_skip rfl trivial
                  · exact fun v w h => ⟨true, h, rfl⟩
                  · intro ρ w' hc hB h169
                    exact chain_skip rfl trivial
                  · exact fun v w h => ⟨true, h, rfl⟩
                  · intro ρ w' hc hB h170
                    exact chain_skip rfl trivial
                  · exact fun v w h => ⟨true, h, rfl⟩
                  · intro ρ w' hc hB h164 h171
                    exact chain_skip rfl trivial
                  · exact fun v w h => ⟨true, h, rfl⟩
                  · intro ρ w' hc hB h162 h172
                    refine chain_run rfl ?_
                    exact opk_pick rfl h162 ⟨Below.refl _ _, hc.1 _⟩
                  · exact fun v w h => ⟨true, h, rfl⟩
                  · intro ρ w' hc hB h159 h173
                    refine chain_run rfl ?_
                    exact opk_pick rfl h159 ⟨Below.refl _ _, h173⟩
                  · exact rfl
                  · intro ρ w' hc hB h174
                    refine chain_run rfl ?_
                    exact opk_assign rfl ⟨Below.refl _ _, h174⟩
                  · exact rfl
                  intro a' w' hbe hsz hd hF hU
                  have h6 : a'.tmps.getD 6 undef = .bool true := hF 28 _ 6 rfl rfl
                  go_wp2_with fail
                  refine bodyPost_ret (results_tmp rfl _ _ _) hd ?_
                  rw [h6]
                  exact ⟨rfl, Hfin.out.trans (hbe.mono Hfin.out.size)⟩
  · have hbad : 40 < n0 ∨ (n0 ≤ 40 ∧ 40 < n1) ∨ (n0 ≤ 40 ∧ n1 ≤ 40 ∧ num < 1) ∨ (n0 ≤ 40 ∧ n1 ≤ 40 ∧ 1 ≤ num ∧ 1000 < num) := by omega
    clear hg
    rcases hbad with g1 | ⟨g1, g2⟩ | ⟨g1, g2, g3⟩ | ⟨g1, g2, g3, g4⟩
    all_goals
      go_enter Try.func15, Try.ntmps15
      go_wp2_with fail
      refine (known3 w).mono ?_
      rintro e w1 ⟨rfl, hb1⟩
      go_wp2_with fail
      go_ret
      exact ⟨rfl, hb1⟩
end Go.Proofs.Ytcmmgehghlaofaa
