/- PostBack: the walk. -/
import Derived.Test.YtihclbiohljmlaaPostLawM
namespace Go.Proofs.Ytihclbiohljmlaa
open Go.RowKit
set_option linter.unusedVariables false

abbrev pbox (f ch k m : Int) : Obj := .cells #[.int .i64 f, .int .i64 ch, .int .i64 k, .int .i64 m] 61 (0, 0)
theorem enc_bad (f ch k m : Int) (h : (encS f ch k m).2 ≠ 0) : (encS f ch k m).1 = [] := by
  unfold encS at h ⊢
  split
  · rfl
  · split
    · rfl
    · rename_i h1 h2
      rw [if_neg h1, if_neg h2] at h
      exact absurd rfl h
set_option maxHeartbeats 3200000 in
set_option maxRecDepth 100000 in
theorem post_bad (f ch k m : Int) (A : Option Addr) (n c : Nat) (fl : List Nat) (w : World) (er : Nat) (hR : encS f ch k m = ([], er)) (her : er ≠ 0) (hch : InI ch) (hb : Sl w A n c (nats .u8 fl)) (hn : n ≤ 1000) :
    Calls Try.prog 7 #[.agg #[.int .i64 f, .int .i64 ch, .int .i64 k, .int .i64 m], .slice A n c] w fun e w' => e = .returned (.bool true) ∧ Below w.heap.size w w' := by
  have h1 := fun w => encode_p f ch k m w hch
  have h2 := fun w => rencode_p f ch k m w
  rw [hR] at h1 h2
  have H1 := Lib.hid h1
  have H2 := Lib.hid h2
  have q0 : ((er : Int) != 0) = true := by simp; omega
  clear h1 h2 hR hb hch
  go_enter Try.func7, Try.ntmps7
  go_wp2_with fail
  refine (known20 _).mono ?_
  rintro e w1 ⟨rfl, b1⟩
  have bx1 : w1.heap[w.heap.size]? = some (pbox f ch k m) := (b1.block _ (by simp)).trans (heap_alloc_new w _)
  have B1 := Lib.hid ((below_new w (pbox f ch k m)).trans (b1.mono (by simp)))
  have Bx1 := Lib.hid bx1
  have hz1 : w.heap.size < w1.heap.size := by have := b1.size; simp at this; omega
  clear b1 bx1
  go_wp2_with (refine wpList_load_row rfl 61 (.tmp 2) rfl w.heap.size rfl 61 _ (0, 0) _ Bx1.out Try.underlying61 rfl (by kernel_rfl) ?_)
  refine (H1.out w1).mono ?_
  rintro e w2 ⟨A2, m2, c2, rfl, s2, b2⟩
  dsimp only at s2 ⊢
  obtain rfl : 0 = m2 := by simpa [nats] using s2.len
  have bx2 : w2.heap[w.heap.size]? = some (pbox f ch k m) := (b2.block _ hz1).trans Bx1.out
  have d0 : w2.cell? ⟨w.heap.size, 0, none⟩ = some (.int .i64 f) := by rw [cell_of_row _ _ _ _ _ _ bx2]; rfl
  have d1 : w2.cell? ⟨w.heap.size, 1, none⟩ = some (.int .i64 ch) := by rw [cell_of_row _ _ _ _ _ _ bx2]; rfl
  have d2 : w2.cell? ⟨w.heap.size, 2, none⟩ = some (.int .i64 k) := by rw [cell_of_row _ _ _ _ _ _ bx2]; rfl
  have d3 : w2.cell? ⟨w.heap.size, 3, none⟩ = some (.int .i64 m) := by rw [cell_of_row _ _ _ _ _ _ bx2]; rfl
  have B2 := Lib.hid (B1.out.trans (b2.mono (by omega)))
  have S2 := Lib.hid s2
  clear b2 bx2 s2
  go_wp2_with fail
  refine (H2.out w2).mono ?_
  rintro e w3 ⟨A3, m3, c3, rfl, s3, b3⟩
  dsimp only at s3 ⊢
  obtain rfl : 0 = m3 := by simpa [nats] using s3.len
  have B3 := Lib.hid (B2.out.trans (b3.mono (by have := B2.out.size; omega)))
  have q1 := run_convert_sl (P := Try.prog) Try.underlying22 Try.underlying5 Try.underlying9 (S2.out.keep b3)
  have q2 := run_convert_sl (P := Try.prog) Try.underlying22 Try.underlying5 Try.underlying9 s3
  generalize strOf [] = str at *
  clear s3 b3
  go_wp2_with fail
  go_ret
  exact ⟨rfl, B3.out⟩
set_option maxHeartbeats 3200000 in
set_option maxRecDepth 100000 in
theorem post_good (F C K M : Nat) (A : Option Addr) (n c : Nat) (fl : List Nat) (w : World) (hC : C = 0 ∨ C = 4) (hF : F ≤ 65536) (hM : M ≤ 65536) (hk4 : C = 4 → 64 ≤ K ∧ K ≤ 65536) (hk0 : C = 0 → K = 0) (hb : Sl w A n c (nats .u8 fl)) (hbs : ∀ x ∈ fl, x < 256) (hn : n ≤ 1000) :
    Calls Try.prog 7 #[.agg #[.int .i64 (F : Int), .int .i64 (C : Int), .int .i64 (K : Int), .int .i64 (M : Int)], .slice A n c] w fun e w' => e = .returned (.bool true) ∧ Below w.heap.size w w' := by
  obtain ⟨i0, hi, hz0, hz1, hz2⟩ := info_parts Try.info5
  have hK : K ≤ 65536 := by rcases hC with h | h; have := hk0 h; omega; exact (hk4 h).2
  have hlen := hb.len
  rw [nats_length] at hlen
  have hR : encS (F : Int) (C : Int) (K : Int) (M : Int) = (putsB (encP F C K M), 0) := by
    unfold encS
    rw [if_neg (by omega), if_neg (by intro h; apply h; unfold encOk; omega)]
    simp
  have h1 := fun w => encode_p (F : Int) (C : Int) (K : Int) (M : Int) w (by unfold InI; omega)
  have h2 := fun w => rencode_p (F : Int) (C : Int) (K : Int) (M : Int) w
  rw [hR] at h1 h2
  have hdec := dec_enc F C K M hC hF hM hk4 hk0
  obtain ⟨hL1, hL2, hX8⟩ := enc_facts F C K M hF (by omega) hK hM
  have hfind := find_all fl (putsB (encP F C K M)) hL2
  rw [hlen] at hfind
  generalize putsB (encP F C K M) = X at *
  obtain ⟨L, hL⟩ : ∃ L, X.length = L := ⟨_, rfl⟩
  rw [hL] at hL1 hL2 hfind
  have H1 := Lib.hid h1
  have H2 := Lib.hid h2
  have HX8 := Lib.hid hX8
  have Hb := Lib.hid hb
  have Hbs := Lib.hid hbs
  have HL := Lib.hid hL
  have Hfind := Lib.hid hfind
  have Hdec := Lib.hid hdec
  have Hi := Lib.hid hi
  have Hz0 := Lib.hid hz0
  have Hz1 := Lib.hid hz1
  have Hz2 := Lib.hid hz2
  have Hlen := Lib.hid hlen
  have kc := fun (w : World) (C : Array Value) (n c : Nat) => Lib.run_convert_bytes_const (P := Try.prog) w 22 5 C n c Try.underlying22 Try.underlying5
  have KC := Lib.hid kc
  clear h1 h2 hR hb hX8 hbs hL hfind hdec hi hz0 hz1 hz2 hC hk4 hk0 hlen kc
  go_enter Try.func7, Try.ntmps7
  go_wp2_with fail
  refine (known20 _).mono ?_
  rintro e w1 ⟨rfl, b1⟩
  have bx1 : w1.heap[w.heap.size]? = some (pbox F C K M) := (b1.block _ (by simp)).trans (heap_alloc_new w _)
  have B1 := Lib.hid ((below_new w (pbox F C K M)).trans (b1.mono (by simp)))
  have Bx1 := Lib.hid bx1
  have hz1 : w.heap.size < w1.heap.size := by have := b1.size; simp at this; omega
  clear b1 bx1
  go_wp2_with (refine wpList_load_row rfl 61 (.tmp 2) rfl w.heap.size rfl 61 _ (0, 0) _ Bx1.out Try.underlying61 rfl (by kernel_rfl) ?_)
  refine (H1.out w1).mono ?_
  rintro e w2 ⟨A2, m2, c2, rfl, s2, b2⟩
  dsimp only at s2 ⊢
  obtain rfl : L = m2 := by have := s2.len; rwa [nats_length, HL.out] at this
  have bx2 : w2.heap[w.heap.size]? = some (pbox F C K M) := (b2.block _ hz1).trans Bx1.out
  have d0 : w2.cell? ⟨w.heap.size, 0, none⟩ = some (.int .i64 F) := by rw [cell_of_row _ _ _ _ _ _ bx2]; rfl
  have d1 : w2.cell? ⟨w.heap.size, 1, none⟩ = some (.int .i64 C) := by rw [cell_of_row _ _ _ _ _ _ bx2]; rfl
  have d2 : w2.cell? ⟨w.heap.size, 2, none⟩ = some (.int .i64 K) := by rw [cell_of_row _ _ _ _ _ _ bx2]; rfl
  have d3 : w2.cell? ⟨w.heap.size, 3, none⟩ = some (.int .i64 M) := by rw [cell_of_row _ _ _ _ _ _ bx2]; rfl
  have B2 := Lib.hid (B1.out.trans (b2.mono (by omega)))
  have Bx2 := Lib.hid bx2
  have S2 := Lib.hid s2
  have hz2 : w.heap.size < w2.heap.size := by have := b2.size; omega
  clear b2 bx2 s2
  go_wp2_with fail
  refine (H2.out w2).mono ?_
  rintro e w3 ⟨A3, m3, c3, rfl, s3, b3⟩
  dsimp only at s3 ⊢
  obtain rfl : L = m3 := by have := s3.len; rwa [nats_length, HL.out] at this
  have B3 := Lib.hid (B2.out.trans (b3.mono (by omega)))
  have S23 := Lib.hid (S2.out.keep b3)
  have q1 := run_convert_sl (P := Try.prog) Try.underlying22 Try.underlying5 Try.underlying9 (S2.out.keep b3)
  have q2 := run_convert_sl (P := Try.prog) Try.underlying22 Try.underlying5 Try.underlying9 s3
  have Bx3 := Lib.hid ((b3.block _ hz2).trans Bx2.out)
  have hz3 : w.heap.size < w3.heap.size := by have := b3.size; omega
  obtain ⟨str, hstr⟩ : ∃ str, strOf X = str := ⟨_, rfl⟩
  rw [hstr] at q1 q2
  have HStr := Lib.hid hstr
  have hd := decode_p A2 L c2 X w3 S23.out HX8.out (by omega)
  rw [Hdec.out] at hd
  have Hd := Lib.hid hd
  clear s3 b3 d0 d1 d2 d3 hstr hd
  go_wp2_with fail
  refine Hd.out.mono ?_
  rintro e w4 ⟨rfl, b4⟩
  unfold postV
  dsimp only
  have B4 := Lib.hid (B3.out.trans (b4.mono (by omega)))
  have S24 := Lib.hid (S23.out.keep b4)
  have Bx4 := Lib.hid ((b4.block _ hz3).trans Bx3.out)
  have hz4 : w.heap.size < w4.heap.size := by have := b4.size; omega
  have hr0 : ∀ o, Row1 ((w4.alloc o).alloc (.cells #[.int .u8 79, .int .u8 82, .int .u8 67] 5 (3, 4))) (w4.heap.size + 1) (.slice (some ⟨w4.heap.size + 1, 0, none⟩) 3 3) 3 magicB := fun o => by
    have := row1_lit (w4.alloc o) magicB 3 (3, 4) (w4.heap.size + 1) rfl (by decide)
    rw [World.size_alloc] at this
    exact this
  have Hr0 := Lib.hid hr0
  have kc2 : ∀ (o : Obj) (C : Array Value) (n c : Nat), (convert 22 22 (.slice (some ⟨w4.heap.size + 1, 0, none⟩) n c)).run Try.prog ((w4.alloc o).alloc (.cells C 5)) = .ok (.slice (some ⟨w4.heap.size + 1, 0, none⟩) n c) ((w4.alloc o).alloc (.cells C 5 (C.size, C.size + 1))) := fun o C n c => by
    have := KC.out (w4.alloc o) C n c
    rw [World.size_alloc] at this
    exact this
  clear b4 hr0 q1 q2
  go_wp2_with (at_builtin; refine wpList_append_row1 rfl (.tmp 59) (.tmp 60) rfl (w4.heap.size + 1) i0 Hi.out Hz0.out Hz1.out Hz2.out _ 3 magicB rfl (Hr0.out _) A n c fl rfl (((Hb.out.keep B4.out).keep (below_new _ _)).keep (below_new _ _)) (by omega) (by simp) ?_)
  intro v5 w5 r5 b5
  have hb45 : Below w4.heap.size w4 w5 := (((Below.refl _ _).alloc (Nat.le_refl _) _).alloc (by simp) _).trans (b5.mono (by omega))
  have hsz5 := b5.size
  simp at hsz5
  have bx5 : w5.heap[w4.heap.size]? = some (pbox F C K M) := (b5.block _ (by omega)).trans (((below_new _ _).block _ (by simp)).trans (heap_alloc_new w4 _))
  have R5 := Lib.hid r5
  have Bx5 := Lib.hid bx5
  have B45 := Lib.hid hb45
  have S25 := Lib.hid (S24.out.keep hb45)
  clear r5 b5 bx5 hb45 kc2 Hr0
  go_wp2_with (at_builtin; refine wpList_append_row1 rfl (.tmp 61) (.tmp 62) rfl (w4.heap.size + 1) i0 Hi.out Hz0.out Hz1.out Hz2.out _ (3 + n) _ rfl R5.out A2 L c2 X rfl S25.out (by omega) (by omega) ?_)
  intro v6 w6 r6 b6
  have hsz6 := b6.size
  have B46 := Lib.hid (B45.out.trans (b6.mono (by omega)))
  have Bx6 := Lib.hid ((b6.block _ (by omega)).trans Bx5.out)
  have R6 := Lib.hid r6
  obtain ⟨A6, c6, rfl, _⟩ := R6.out.sl
  have S26 := Lib.hid (S24.out.keep B46.out)
  clear r6 b6 R5 B45 Bx5 S25
  go_wp2_with (at_builtin; refine wpList_append_row1 rfl (.tmp 65) (.tmp 69) rfl (w4.heap.size + 1) i0 Hi.out Hz0.out Hz1.out Hz2.out _ (3 + n + L) _ rfl (R6.out.keep (below_new _ _)) (some ⟨w6.heap.size, 0, none⟩) 1 1 [L] rfl (Sl.one_new w6 (.int .u8 (L : Int)) 5 rfl) (by omega) (by simp; omega) ?_)
  intro v7 w7 r7 b7
  obtain ⟨A7, c7, rfl, s7⟩ := r7.sl
  have s7' : Sl w7 A7 (3 + n + L + 1) c7 (nats .u8 (magicB ++ fl ++ X ++ [L])) := by simpa [List.append_assoc] using s7
  have b67 : Below (w4.heap.size + 1) w6 w7 := ((Below.refl _ _).alloc (by omega) _).trans b7
  have h8 : ∀ x ∈ magicB ++ fl ++ X ++ [L], x < 256 := fun x hx => by
    rcases List.mem_append.1 hx with hx | hx
    · rcases List.mem_append.1 hx with hx | hx
      · rcases List.mem_append.1 hx with hx | hx
        · exact (show ∀ x ∈ magicB, x < 256 by decide) x hx
        · exact Hbs.out x hx
      · exact HX8.out x hx
    · simp at hx; omega
  have h5 := find_p A7 (3 + n + L + 1) c7 (magicB ++ fl ++ X ++ [L]) w7 s7' h8 (by omega)
  rw [Hfind.out] at h5
  have H5 := Lib.hid h5
  have Bx7 := Lib.hid ((b67.block _ (by omega)).trans Bx6.out)
  have B47 := Lib.hid (B46.out.trans (b67.mono (by omega)))
  have S27 := Lib.hid (S24.out.keep B47.out)
  have hz7 : w4.heap.size < w7.heap.size := by have := b67.size; omega
  clear h5 h8 s7 s7' r7 b7 b67 R6 Bx6 S26 B46
  go_wp2_with fail
  refine H5.out.mono ?_
  rintro e w8 ⟨A8, c8, m8, rfl, s8, b8⟩
  dsimp only at s8 ⊢
  obtain rfl : L = m8 := by have := s8.len; rwa [nats_length, HL.out] at this
  have bx8 : w8.heap[w4.heap.size]? = some (pbox F C K M) := (b8.block _ hz7).trans Bx7.out
  have hp8 : w8.heap[w.heap.size]? = some (pbox F C K M) := (b8.block _ (by omega)).trans ((B47.out.block _ hz4).trans Bx4.out)
  have q1 := run_convert_sl (P := Try.prog) Try.underlying22 Try.underlying5 Try.underlying9 (S27.out.keep b8)
  have q2 := run_convert_sl (P := Try.prog) Try.underlying22 Try.underlying5 Try.underlying9 s8
  rw [HStr.out] at q1 q2
  have HB := Lib.hid (B4.out.trans ((B47.out.mono (by omega)).trans (b8.mono (by omega))))
  have d0 : w8.cell? ⟨w.heap.size, 0, none⟩ = some (.int .i64 F) := by rw [cell_of_row _ _ _ _ _ _ hp8]; rfl
  have d1 : w8.cell? ⟨w.heap.size, 1, none⟩ = some (.int .i64 C) := by rw [cell_of_row _ _ _ _ _ _ hp8]; rfl
  have d2 : w8.cell? ⟨w.heap.size, 2, none⟩ = some (.int .i64 K) := by rw [cell_of_row _ _ _ _ _ _ hp8]; rfl
  have d3 : w8.cell? ⟨w.heap.size, 3, none⟩ = some (.int .i64 M) := by rw [cell_of_row _ _ _ _ _ _ hp8]; rfl
  have e0 : w8.cell? ⟨w4.heap.size, 0, none⟩ = some (.int .i64 F) := by rw [cell_of_row _ _ _ _ _ _ bx8]; rfl
  have e1 : w8.cell? ⟨w4.heap.size, 1, none⟩ = some (.int .i64 C) := by rw [cell_of_row _ _ _ _ _ _ bx8]; rfl
  have e2 : w8.cell? ⟨w4.heap.size, 2, none⟩ = some (.int .i64 K) := by rw [cell_of_row _ _ _ _ _ _ bx8]; rfl
  have e3 : w8.cell? ⟨w4.heap.size, 3, none⟩ = some (.int .i64 M) := by rw [cell_of_row _ _ _ _ _ _ bx8]; rfl
  clear s8 b8 bx8 hp8
  have hLt : decide ((L : Int) < 200) = true := decide_eq_true (by omega)
  go_wp2_with fail
  go_ret
  exact ⟨rfl, HB.out⟩
set_option maxHeartbeats 3200000 in
set_option maxRecDepth 100000 in
theorem law_PostBack (f ch k m : Int) (A : Option Addr) (n c : Nat) (fl : List Nat) (w : World) (hch : InI ch) (hb : Sl w A n c (nats .u8 fl)) (hbs : ∀ x ∈ fl, x < 256) :
    Calls Try.prog 7 #[.agg #[.int .i64 f, .int .i64 ch, .int .i64 k, .int .i64 m], .slice A n c] w fun e w' => e = .returned (.bool true) ∧ Below w.heap.size w w' := by
  by_cases hn : n ≤ 1000
  · by_cases hR : (encS f ch k m).2 = 0
    · have h := hR
      unfold encS at h
      split at h
      · simp at h
      · split at h
        · simp at h
        · rename_i h1 h2
          have h3 : encOk f ch k m := Classical.not_not.1 h2
          obtain ⟨⟨a1, a2⟩, ⟨a3, a4⟩, a5, a6⟩ := h3
          have hc4 : ch = 0 ∨ ch = 4 := by omega
          have hk : 0 ≤ k := by
            rcases hc4 with h | h
            · rw [a6 h]; exact Int.le_refl _
            · have := (a5 h).1; omega
          obtain ⟨F, rfl⟩ : ∃ F : Nat, f = (F : Int) := ⟨f.toNat, by omega⟩
          obtain ⟨C, rfl⟩ : ∃ C : Nat, ch = (C : Int) := ⟨ch.toNat, by omega⟩
          obtain ⟨K, rfl⟩ : ∃ K : Nat, k = (K : Int) := ⟨k.toNat, by omega⟩
          obtain ⟨M, rfl⟩ : ∃ M : Nat, m = (M : Int) := ⟨m.toNat, by omega⟩
          exact post_good F C K M A n c fl w (by omega) (by omega) (by omega) (fun h => by have := a5 (by omega); omega) (fun h => by have := a6 (by omega); omega) hb hbs hn
    · exact post_bad f ch k m A n c fl w _ (Prod.ext (enc_bad f ch k m hR) rfl) hR hch hb hn
  · have hn2 : (1000 : Int) < (n : Int) := by omega
    have hm : (n : Int) ≤ 9223372036854775807 := by
      have h1 := hb.le
      have h2 := hb.max
      unfold maxLen at h2
      omega
    clear hn hb hbs
    go_enter Try.func7, Try.ntmps7
    go_wp2_with fail
    refine (known20 _).mono ?_
    rintro e w1 ⟨rfl, b1⟩
    have B1 := Lib.hid ((below_new w (pbox f ch k m)).trans (b1.mono (by simp)))
    clear b1
    go_wp2_with fail
    go_ret
    exact ⟨rfl, B1.out⟩
end Go.Proofs.Ytihclbiohljmlaa
