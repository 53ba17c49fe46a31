/- The laws of layer 6 but RunParts: the walks. -/
import Derived.Test.YtcmmgehghlaofaaBrleEnc
import Derived.Test.YtcmmgehghlaofaaBrleRef
import Derived.Lib.SlBytesConst
namespace Go.Proofs.Ytcmmgehghlaofaa
open Go.RowKit
set_option linter.unusedVariables false

theorem Sl.litm (w : World) (l : List Value) (n : Nat) (e : TypeId) (fr : Nat × Nat) (hn : l.length = n) (hm : n ≤ maxLen) (h1 : ∀ u ∈ l, u.oneCell' = true) : Sl (w.alloc (.cells l.toArray e fr)) (some ⟨w.heap.size, 0, none⟩) n n l := by
  refine ⟨hn, Nat.le_refl _, hm, (fun h => by cases h), (fun ad had j u hu => ?_), h1⟩
  injection had with had
  subst had
  rw [add_none, Nat.zero_add]
  rw [cell_of_row (w.alloc (.cells l.toArray e fr)) w.heap.size j l.toArray e fr (heap_alloc_new w _)]
  simpa using hu

theorem dec_enc (A : Option Addr) (n c : Nat) (l : List Nat) (w : World) (hs : Sl w A n c (nats .u8 (runsB (encS l)))) (hl : ∀ x ∈ l, x < 256) (hc : l.length ≤ 16384) :
    Calls Try.prog 24 #[.slice A n c, .int .i64 (l.length : Int)] w fun e w' => ∃ A', e = .returned (.tuple #[.slice A' l.length l.length, .int .i64 0]) ∧ Sl w' A' l.length l.length (nats .u8 l) ∧ Below w.heap.size w w' := by
  have h := bdec_p A n c (encS l) l.length w hs (encS_ok l hl) hc
  rw [decS_all _ [] _ (encS_ok l hl) (by rw [encS_told l hl]; simp), encS_told l hl] at h
  refine h.mono ?_
  rintro e w' ⟨A', m, rfl, hs', hb⟩
  have hm := hs'.len
  rw [nats_length] at hm
  simp only [List.nil_append] at hm hs'
  subst hm
  exact ⟨A', rfl, hs', hb⟩
theorem rdec_enc (A : Option Addr) (n c : Nat) (l : List Nat) (w : World) (hs : Sl w A n c (nats .u8 (runsB (encS l)))) (hl : ∀ x ∈ l, x < 256) (hc : l.length ≤ 16384) :
    Calls Try.prog 25 #[.slice A n c, .int .i64 (l.length : Int)] w fun e w' => ∃ A' c', e = .returned (.tuple #[.slice A' l.length c', .int .i64 0]) ∧ Sl w' A' l.length c' (nats .u8 l) ∧ Below w.heap.size w w' := by
  have h := rdec_p A n c (encS l) l.length w hs (encS_ok l hl) hc (by rw [encS_told l hl])
  rw [encS_told l hl] at h
  exact h

set_option maxHeartbeats 3200000 in
set_option maxRecDepth 4000 in
theorem known6 (w : World) : Calls Try.prog 22 #[] w fun e w' => e = .returned (.bool true) ∧ Below w.heap.size w w' := by
  have hd1 := fun (W : World) => bdec_p (some ⟨W.heap.size, 0, none⟩) 5 5 [.rep 7 3, .lit [1, 2]] 5 (W.alloc (.cells #[.int .u8 0, .int .u8 7, .int .u8 254, .int .u8 1, .int .u8 2] 5)) (Sl.lit W (nats .u8 [0, 7, 254, 1, 2]) 5 _ rfl (by decide) (nats_one _ _)) (by intro r hr; simp at hr; rcases hr with rfl | rfl <;> simp [Run.ok]) (by decide)
  rw [show decS [.rep 7 3, .lit [1, 2]] [] 5 = ([7, 7, 7, 1, 2], 0) from by decide] at hd1
  have hu1 := fun (W : World) => bused_p (some ⟨W.heap.size, 0, none⟩) 4 4 [.rep 7 3, .rep 9 12] 2 (W.alloc (.cells #[.int .u8 0, .int .u8 7, .int .u8 9, .int .u8 9] 5)) (Sl.lit W (nats .u8 [0, 7, 9, 9]) 4 _ rfl (by decide) (nats_one _ _)) (by intro r hr; simp at hr; rcases hr with rfl | rfl <;> simp [Run.ok]) (by decide)
  rw [show usedS [.rep 7 3, .rep 9 12] 0 0 2 = (2, 0) from by decide] at hu1
  have he1 := fun (W : World) => enc_p (some ⟨W.heap.size, 0, none⟩) 3 3 [97, 98, 99] (W.alloc (.cells #[.int .u8 97, .int .u8 98, .int .u8 99] 5 (3, 4))) (Sl.litm W (nats .u8 [97, 98, 99]) 3 _ (3, 4) rfl (by decide) (nats_one _ _)) (by decide) (by decide)
  have kc := fun (w : World) (C : Array Value) (n c : Nat) => Lib.run_convert_bytes_const (P := Try.prog) w 22 5 C n c Try.underlying22 Try.underlying5
  have Hd1 := Lib.hid hd1
  have Hu1 := Lib.hid hu1
  have He1 := Lib.hid he1
  clear hd1 hu1 he1
  go_enter Try.func22, Try.ntmps22
  go_wp2_with fail
  refine (Hd1.out _).mono ?_
  rintro e w1 ⟨A1, m1, rfl, hs1, hb1⟩
  obtain rfl : 5 = m1 := by simpa [nats] using hs1.len
  go_wp2_with fail
  refine (Hu1.out _).mono ?_
  rintro e w2 ⟨rfl, hb2⟩
  go_wp2_with fail
  refine (He1.out _).mono ?_
  rintro e w3 ⟨A3, m3, rfl, hs3, hb3⟩
  go_wp2_with fail
  refine (dec_enc A3 m3 m3 [97, 98, 99] w3 hs3 (by decide) (by decide)).mono ?_
  rintro e w4 ⟨A4, rfl, hs4, hb4⟩
  have b01 := (below_new w _).trans (hb1.mono (by simp))
  have b12 := (below_new w1 _).trans (hb2.mono (by simp))
  have b23 := (below_new w2 _).trans (hb3.mono (by simp))
  have B14 := below_trans' b12 (below_trans' b23 hb4)
  have q1 := run_convert_sl (P := Try.prog) Try.underlying22 Try.underlying5 Try.underlying9 (hs1.keep B14)
  have q2 := run_convert_sl (P := Try.prog) Try.underlying22 Try.underlying5 Try.underlying9 (show Sl w4 A4 3 3 (nats .u8 [97, 98, 99]) from hs4)
  rw [show strOf [7, 7, 7, 1, 2] = ⟨#[7, 7, 7, 1, 2]⟩ from by decide] at q1
  rw [show strOf [97, 98, 99] = ⟨#[97, 98, 99]⟩ from by decide] at q2
  have HB := Lib.hid (below_trans' b01 B14)
  clear hs1 hs3 hs4 hb1 hb2 hb3 hb4 b01 b12 b23 B14
  go_wp2_with fail
  go_ret
  exact ⟨by first | rfl | simp, HB.out⟩

set_option maxHeartbeats 3200000 in
set_option maxRecDepth 4000 in
theorem law_RunBack (A : Option Addr) (n c : Nat) (l : List Nat) (w : World) (hs : Sl w A n c (nats .u8 l)) (hl : ∀ x ∈ l, x < 256) : Calls Try.prog 3 #[.slice A n c] w fun e w' => e = .returned (.bool true) ∧ Below w.heap.size w w' := by
  have hle := hs.le
  have hmax := hs.max
  unfold maxLen at hmax
  have hlen := hs.len
  rw [nats_length] at hlen
  have Hs := Lib.hid hs
  have Hl := Lib.hid hl
  have Hlen := Lib.hid hlen
  clear hs hl hlen
  by_cases hn : n ≤ 2000
  · go_enter Try.func3, Try.ntmps3
    go_wp2_with fail
    refine (known6 _).mono ?_
    rintro e w1 ⟨rfl, hb1⟩
    go_wp2_with fail
    refine (enc_p A n c l w1 (Hs.out.keep hb1) Hl.out (by omega)).mono ?_
    rintro e w2 ⟨A2, m2, rfl, hs2, hb2⟩
    have hfew := encS_few l
    have hm2 := hs2.len
    rw [nats_length] at hm2
    rw [hm2, Hlen.out] at hfew
    have Hdec := fun W h => dec_enc A2 m2 m2 l W h Hl.out (by have := Hlen.out; omega)
    have Href := fun W h => rdec_enc A2 m2 m2 l W h Hl.out (by have := Hlen.out; omega)
    rw [Hlen.out] at Hdec Href
    have Hd := Lib.hid Hdec
    have Hr := Lib.hid Href
    clear Hdec Href hm2
    go_wp2_with fail
    refine (Hd.out _ hs2).mono ?_
    rintro e w3 ⟨A3, rfl, hs3, hb3⟩
    go_wp2_with fail
    refine (Hr.out _ (hs2.keep hb3)).mono ?_
    rintro e w4 ⟨A4, c4, rfl, hs4, hb4⟩
    have B14 := below_trans' hb2 (below_trans' hb3 hb4)
    have B04 := below_trans' hb1 B14
    have q1 := run_convert_sl (P := Try.prog) Try.underlying22 Try.underlying5 Try.underlying9 (hs3.keep hb4)
    have q2 := run_convert_sl (P := Try.prog) Try.underlying22 Try.underlying5 Try.underlying9 hs4
    have q3 := run_convert_sl (P := Try.prog) Try.underlying22 Try.underlying5 Try.underlying9 (Hs.out.keep B04)
    have hm : m2 ≤ n + n / 128 + 2 := hfew
    have hfin : (m2 : Int) ≤ (n : Int) + (n : Int) / 128 + 2 := by omega
    have HB := Lib.hid B04
    clear hs2 hs3 hs4 hb1 hb2 hb3 hb4 B14 B04 hfew hm
    go_wp2_with fail
    go_ret
    exact ⟨by first | rfl | simp, HB.out⟩
  · go_enter Try.func3, Try.ntmps3
    go_wp2_with fail
    refine (known6 _).mono ?_
    rintro e w1 ⟨rfl, hb1⟩
    go_wp2_with fail
    go_ret
    exact ⟨rfl, hb1⟩

set_option maxHeartbeats 3200000 in
set_option maxRecDepth 4000 in
theorem law_RunTwo (A : Option Addr) (n c : Nat) (l : List Nat) (A' : Option Addr) (n' c' : Nat) (l' : List Nat) (w : World) (hs : Sl w A n c (nats .u8 l)) (hl : ∀ x ∈ l, x < 256) (hs' : Sl w A' n' c' (nats .u8 l')) (hl' : ∀ x ∈ l', x < 256) :
    Calls Try.prog 6 #[.slice A n c, .slice A' n' c'] w fun e w' => e = .returned (.bool true) ∧ Below w.heap.size w w' := by
  have hle := hs.le
  have hmax := hs.max
  have hle' := hs'.le
  have hmax' := hs'.max
  unfold maxLen at hmax hmax'
  have hlen := hs.len
  have hlen' := hs'.len
  rw [nats_length] at hlen hlen'
  have Hs := Lib.hid hs
  have Hl := Lib.hid hl
  have Hlen := Lib.hid hlen
  have Hs' := Lib.hid hs'
  have Hl' := Lib.hid hl'
  have Hlen' := Lib.hid hlen'
  clear hs hl hlen hs' hl' hlen'
  by_cases hn : n ≤ 2000
  · by_cases hn' : n' ≤ 2000
    · obtain ⟨i0, hi, hz0, hz1, hz2⟩ := info_parts Try.info5
      go_enter Try.func6, Try.ntmps6
      go_wp2_with fail
      refine (known6 _).mono ?_
      rintro e w1 ⟨rfl, hb1⟩
      go_wp2_with fail
      refine (enc_p A n c l w1 (Hs.out.keep hb1) Hl.out (by omega)).mono ?_
      rintro e w2 ⟨A2, m2, rfl, hs2, hb2⟩
      have B2 := below_trans' hb1 hb2
      go_wp2_with fail
      refine (enc_p A' n' c' l' w2 (Hs'.out.keep B2) Hl'.out (by omega)).mono ?_
      rintro e w3 ⟨A3, m3, rfl, hs3, hb3⟩
      have B3 := below_trans' B2 hb3
      have hm2 := hs2.len
      have hm3 := hs3.len
      rw [nats_length] at hm2 hm3
      have hf2 := encS_few l
      have hf3 := encS_few l'
      rw [hm2, Hlen.out] at hf2
      rw [hm3, Hlen'.out] at hf3
      have hs2b := (hs2.keep hb3).keep (below_new w3 (.cells #[] 5))
      have ho3 : (w3.alloc (.cells #[] 5)).ownsRow w3.heap.size 5 1 (.slice (some ⟨w3.heap.size, 0, none⟩) 0 0) 0 [] := World.ownsRow_made w3 #[] 0 (Nat.le_refl _) (by decide) rfl
      have Hm2 := Lib.hid hm2
      clear hm2 hm3
      go_wp2_with (at_builtin; refine wpList_append_sl rfl (.tmp 26) (.tmp 27) 22 rfl w3.heap.size 5 i0 (.int .u8 0) 1 Try.underlying22 hi hz0 hz1 hz2 rfl _ 0 [] rfl ho3 _ m2 m2 _ rfl hs2b ?c1 ?c2 ?c3 ?_)
      case c1 => unfold maxLen; omega
      case c2 => omega
      case c3 => simp
      intro v4 w4 ho4 hb4 _ _
      have hb34 := (below_new w3 (.cells #[] 5)).trans hb4
      have hs3b := hs3.keep hb34
      have hsz4 := hb34.size
      clear ho3 hs2b hb4
      go_wp2_with (at_builtin; refine wpList_append_sl rfl (.tmp 28) (.tmp 29) 22 rfl w3.heap.size 5 i0 (.int .u8 0) 1 Try.underlying22 hi hz0 hz1 hz2 rfl _ _ _ rfl ho4 _ m3 m3 _ rfl hs3b ?c1 ?c2 ?c3 ?_)
      case c1 => unfold maxLen; omega
      case c2 => omega
      case c3 => exact hsz4
      intro v5 w5 ho5 hb5 _ _
      obtain ⟨A5, c5, hv5, hs5⟩ := Sl.of_own ho5 (fun u hu => by
        rcases List.mem_append.1 hu with hu | hu
        · exact nats_one _ _ u (by simpa using hu)
        · exact nats_one _ _ u hu)
      subst hv5
      have hs5' : Sl w5 A5 (m2 + m3) c5 (nats .u8 (runsB (encS l ++ encS l'))) := by
        rw [runsB_append, nats_append]
        simpa using hs5
      have hb35 := hb34.trans hb5
      have B5 := below_trans' B3 hb35
      have hok : runsOk (encS l ++ encS l') := runsOk_append (encS_ok l Hl.out) (encS_ok l' Hl'.out)
      have htold : runsT (encS l ++ encS l') = l ++ l' := by rw [runsT_append, encS_told l Hl.out, encS_told l' Hl'.out]
      have hdec := bdec_p A5 (m2 + m3) c5 (encS l ++ encS l') (n + n') w5 hs5' hok (by omega)
      rw [decS_all _ [] _ hok (by rw [htold]; simp [Hlen.out, Hlen'.out]), htold, show ((n + n' : Nat) : Int) = (n : Int) + n' from by omega] at hdec
      have huse := fun W h => bused_p A5 (m2 + m3) c5 (encS l ++ encS l') n W h hok (by omega)
      rw [usedS_all (encS l) (encS l') 0 0 n (encS_ok l Hl.out) (by rw [encS_told l Hl.out, Hlen.out]; simp), Nat.zero_add, Hm2.out] at huse
      have Hdec := Lib.hid hdec
      have Huse := Lib.hid huse
      have Hs5 := Lib.hid hs5'
      clear hdec huse hs5 hs5' ho4 ho5 hs3b hok htold hb35 hb34 hb5
      go_wp2_with fail
      refine Hdec.out.mono ?_
      rintro e w6 ⟨A6, m6, rfl, hs6, hb6⟩
      go_wp2_with fail
      refine (Huse.out _ (Hs5.out.keep hb6)).mono ?_
      rintro e w7 ⟨rfl, hb7⟩
      have B7 := below_trans' (below_trans' B5 hb6) hb7
      have q1 := run_convert_sl (P := Try.prog) Try.underlying22 Try.underlying5 Try.underlying9 (hs6.keep hb7)
      have q2 := run_convert_sl (P := Try.prog) Try.underlying22 Try.underlying5 Try.underlying9 (Hs.out.keep B7)
      have q3 := run_convert_sl (P := Try.prog) Try.underlying22 Try.underlying5 Try.underlying9 (Hs'.out.keep B7)
      have q4 := run_string_add_sum (P := Try.prog) w7 (strOf l) (strOf l') (by rw [strOf_size, strOf_size, Hlen.out, Hlen'.out]; omega)
      rw [strOf_append] at q4
      rw [List.nil_append] at q1
      have HB := Lib.hid B7
      clear hs2 hs3 hs6 hb1 hb2 hb3 hb6 hb7 B2 B3 B5 B7
      go_wp2_with fail
      go_ret
      exact ⟨by first | rfl | simp, HB.out⟩
    · go_enter Try.func6, Try.ntmps6
      go_wp2_with fail
      refine (known6 _).mono ?_
      rintro e w1 ⟨rfl, hb1⟩
      go_wp2_with fail
      go_ret
      exact ⟨rfl, hb1⟩
  · go_enter Try.func6, Try.ntmps6
    go_wp2_with fail
    refine (known6 _).mono ?_
    rintro e w1 ⟨rfl, hb1⟩
    go_wp2_with fail
    go_ret
    exact ⟨rfl, hb1⟩

set_option maxHeartbeats 3200000 in
set_option maxRecDepth 4000 in
theorem none_good (w : World) (A : Option Addr) (n c : Nat) (count : Int) (hn : ¬ n ≤ 2000 ∨ (0 ≤ count ∧ count ≤ 16384)) (hnc : n ≤ c) (hc : c ≤ maxLen) :
    Calls Try.prog 7 #[.slice A n c, .int .i64 count] w fun e w' => e = .returned (.bool true) ∧ Below w.heap.size w w' := by
  unfold maxLen at hc
  have he := fun W => enc_p none 0 0 [] W (Sl.none_ _) (by simp) (by decide)
  have He := Lib.hid he
  clear he
  rcases hn with hn | ⟨h1, h2⟩
  · go_enter Try.func7, Try.ntmps7
    go_wp2_with fail
    refine (known6 _).mono ?_
    rintro e w1 ⟨rfl, hb1⟩
    go_wp2_with fail
    refine (He.out _).mono ?_
    rintro e w2 ⟨A2, m2, rfl, hs2, hb2⟩
    go_wp2_with fail
    refine (dec_enc A2 m2 m2 [] w2 hs2 (by simp) (by decide)).mono ?_
    rintro e w3 ⟨A3, rfl, hs3, hb3⟩
    have HB := Lib.hid (below_trans' hb1 (below_trans' hb2 hb3))
    clear hs2 hs3 hb1 hb2 hb3
    go_wp2_with fail
    go_ret
    exact ⟨by first | rfl | simp, HB.out⟩
  · by_cases hn : n ≤ 2000
    · go_enter Try.func7, Try.ntmps7
      go_wp2_with fail
      refine (known6 _).mono ?_
      rintro e w1 ⟨rfl, hb1⟩
      go_wp2_with fail
      refine (He.out _).mono ?_
      rintro e w2 ⟨A2, m2, rfl, hs2, hb2⟩
      go_wp2_with fail
      refine (dec_enc A2 m2 m2 [] w2 hs2 (by simp) (by decide)).mono ?_
      rintro e w3 ⟨A3, rfl, hs3, hb3⟩
      have HB := Lib.hid (below_trans' hb1 (below_trans' hb2 hb3))
      clear hs2 hs3 hb1 hb2 hb3
      go_wp2_with fail
      go_ret
      exact ⟨by first | rfl | simp, HB.out⟩
    · go_enter Try.func7, Try.ntmps7
      go_wp2_with fail
      refine (known6 _).mono ?_
      rintro e w1 ⟨rfl, hb1⟩
      go_wp2_with fail
      refine (He.out _).mono ?_
      rintro e w2 ⟨A2, m2, rfl, hs2, hb2⟩
      go_wp2_with fail
      refine (dec_enc A2 m2 m2 [] w2 hs2 (by simp) (by decide)).mono ?_
      rintro e w3 ⟨A3, rfl, hs3, hb3⟩
      have HB := Lib.hid (below_trans' hb1 (below_trans' hb2 hb3))
      clear hs2 hs3 hb1 hb2 hb3
      go_wp2_with fail
      go_ret
      exact ⟨by first | rfl | simp, HB.out⟩

set_option maxHeartbeats 3200000 in
set_option maxRecDepth 4000 in
theorem law_RunNone (A : Option Addr) (n c : Nat) (l : List Nat) (count : Int) (w : World) (hs : Sl w A n c (nats .u8 l)) (hl : ∀ x ∈ l, x < 256) (hco : -9223372036854775808 ≤ count ∧ count ≤ 9223372036854775807) :
    Calls Try.prog 7 #[.slice A n c, .int .i64 count] w fun e w' => e = .returned (.bool true) ∧ Below w.heap.size w w' := by
  have hle := hs.le
  have hmax := hs.max
  by_cases hg : ¬ n ≤ 2000 ∨ (0 ≤ count ∧ count ≤ 16384)
  · exact none_good w A n c count hg hle hmax
  · unfold maxLen at hmax
    have hn : n ≤ 2000 := by omega
    have hbad : count < 0 ∨ 16384 < count := by omega
    have Hb := Lib.hid hbad
    have Hd := Lib.hid (fun W => bdec_bad A n c count W hbad)
    have Hu := Lib.hid (fun W => bused_bad A n c count W hbad)
    clear hs hl hg hbad
    rcases Hb.out with h | h
    · go_enter Try.func7, Try.ntmps7
      go_wp2_with fail
      refine (known6 _).mono ?_
      rintro e w1 ⟨rfl, hb1⟩
      go_wp2_with fail
      refine (Hd.out _).mono ?_
      rintro e w2 ⟨rfl, rfl⟩
      go_wp2_with fail
      refine (Hu.out _).mono ?_
      rintro e w3 ⟨rfl, rfl⟩
      go_wp2_with fail
      go_ret
      exact ⟨by first | rfl | simp, hb1⟩
    · have h0 : 0 ≤ count := by omega
      go_enter Try.func7, Try.ntmps7
      go_wp2_with fail
      refine (known6 _).mono ?_
      rintro e w1 ⟨rfl, hb1⟩
      go_wp2_with fail
      refine (Hd.out _).mono ?_
      rintro e w2 ⟨rfl, rfl⟩
      go_wp2_with fail
      refine (Hu.out _).mono ?_
      rintro e w3 ⟨rfl, rfl⟩
      go_wp2_with fail
      go_ret
      exact ⟨by first | rfl | simp, hb1⟩
end Go.Proofs.Ytcmmgehghlaofaa
