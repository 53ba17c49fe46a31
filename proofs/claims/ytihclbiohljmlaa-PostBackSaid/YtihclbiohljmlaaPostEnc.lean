/- post.inside, post.Encode, the reference's Encode: what they answer. (Printed by gen/postenc.py.) -/
import Derived.Test.YtihclbiohljmlaaPostRDec
import Derived.Test.YtihclbiohljmlaaPbFr
namespace Go.Proofs.Ytihclbiohljmlaa
open Go.RowKit
set_option linter.unusedVariables false

theorem putU_len (num : Int) (v : Nat) : (putU num v).length ≤ 20 := by
  unfold putU
  split
  · exact num_len _ _
  · simp
theorem putT_len (num : Int) (l : List Nat) : (putT num l).length ≤ 20 + l.length := by
  unfold putT
  split
  · have h4 := (varP_length (num.toNat * 8 + 2)).2
    have h5 := (varP_length l.length).2
    show (varP _ ++ varP _ ++ l).length ≤ _
    rw [List.length_append, List.length_append]
    omega
  · simp
theorem enc_bytes (f c k m : Nat) : putsB (encP f c k m) = (((((([] ++ putU 1 f) ++ putU 2 c) ++ putU 3 k) ++ putT 4 [0, 12]) ++ putU 5 m) ++ putU 6 1) ++ putT 8000 magicB := by
  simp [encP, putsB, PutV.bytes, putU, putT, mayF]

set_option maxHeartbeats 400000 in
theorem inside_p (v lo hi : Int) (w : World) : Calls Try.prog 57 #[.int .i64 v, .int .i64 lo, .int .i64 hi] w fun e w' => e = .returned (.bool (decide (lo ≤ v) && decide (v ≤ hi))) ∧ w = w' := by
  by_cases h1 : lo ≤ v
  · by_cases h2 : v ≤ hi
    · rw [decide_eq_true h1, decide_eq_true h2]
      go_enter Try.func57, Try.ntmps57
      go_wp2
      go_ret
      exact ⟨rfl, rfl⟩
    · have e2 : decide (v ≤ hi) = false := decide_eq_false h2
      rw [decide_eq_true h1, e2]
      go_enter Try.func57, Try.ntmps57
      go_wp2
      go_ret
      exact ⟨rfl, rfl⟩
  · have e1 : decide (lo ≤ v) = false := decide_eq_false h1
    rw [e1]
    go_enter Try.func57, Try.ntmps57
    go_wp2
    go_ret
    exact ⟨rfl, rfl⟩

def EncOut (w : World) (R : List Nat × Nat) (e : Ending) (w' : World) : Prop :=
  ∃ A' m' c', e = .returned (.tuple #[.slice A' m' c', .int .i64 (R.2 : Int)]) ∧ Sl w' A' m' c' (nats .u8 R.1) ∧ Below w.heap.size w w'
theorem EncOut.bad {w w' : World} {er : Nat} (h : Below w.heap.size w w') : EncOut w ([], er) (.returned (.tuple #[.slice none 0 0, .int .i64 (er : Int)])) w' := ⟨none, 0, 0, rfl, Sl.none_ w', h⟩

set_option maxHeartbeats 3200000 in
set_option maxRecDepth 100000 in
theorem encode_good (f c k m : Nat) (w : World) (hc : c = 0 ∨ c = 4) (hf : f ≤ 65536) (hm : m ≤ 65536) (hk4 : c = 4 → 64 ≤ k ∧ k ≤ 65536) (hk0 : c = 0 → k = 0) :
    Calls Try.prog 34 #[.agg #[.int .i64 (f : Int), .int .i64 (c : Int), .int .i64 (k : Int), .int .i64 (m : Int)]] w fun e w' => EncOut w (putsB (encP f c k m), 0) e w' := by
  have hk : k ≤ 65536 := by rcases hc with h | h; have := hk0 h; omega; exact (hk4 h).2
  have i1 := fun W => inside_p (f : Int) 0 65536 W
  have i2 := fun W => inside_p (m : Int) 0 65536 W
  have i3 := fun W => inside_p (k : Int) 64 65536 W
  rw [show (decide ((0 : Int) ≤ (f : Int)) && decide ((f : Int) ≤ 65536)) = true from by simp; omega] at i1
  rw [show (decide ((0 : Int) ≤ (m : Int)) && decide ((m : Int) ≤ 65536)) = true from by simp; omega] at i2
  have I1 := Lib.hid i1
  have I2 := Lib.hid i2
  have I3 := Lib.hid i3
  clear i1 i2 i3
  have kc := fun (w : World) (C : Array Value) (n c : Nat) => Lib.run_convert_bytes_const (P := Try.prog) w 22 5 C n c Try.underlying22 Try.underlying5
  have hcb : c ≤ 4 := by omega
  have Hc := Lib.hid hc
  have Hk4 := Lib.hid hk4
  have Hk0 := Lib.hid hk0
  have hcod := codec_p c (w.alloc (.cells #[.int .i64 (f : Int), .int .i64 (c : Int), .int .i64 (k : Int), .int .i64 (m : Int)] 61)) (by omega)
  have Hcod := Lib.hid hcod
  clear hc hk4 hk0 hcod
  go_enter Try.func34, Try.ntmps34
  go_wp2_with fail
  refine Hcod.out.mono ?_
  rintro e w' ⟨rfl, rfl⟩
  have hcc : (c == 0 || c == 4) = true := by rcases Hc.out with h | h <;> subst h <;> rfl
  rw [hcc]
  go_wp2_with fail
  refine (I1.out _).mono ?_
  rintro e w' ⟨rfl, rfl⟩
  go_wp2_with fail
  refine (I2.out _).mono ?_
  rintro e w' ⟨rfl, rfl⟩
  rcases Hc.out with h0 | h4
  · have hk0 := Hk0.out h0
    subst h0 hk0
    clear Hk4 Hk0 Hc hcc Hcod I1 I2 I3
    go_wp2_with fail
    refine (putuint_p none 0 0 [] 1 f _ (Sl.none_ _) (by omega) (by omega)).mono ?_
    rintro e w1 ⟨A1, m1, c1, rfl, s1, b1⟩
    have hm1 : m1 ≤ 30 := by
      have h1 := s1.len
      rw [nats_length, List.length_append] at h1
      have h2 := putU_len 1 f
      first | omega | (simp at h1 h2; omega) | (have hmag : magicB.length = 3 := rfl; omega)
    have B1 := b1
    have bxw1 := (B1.block w.heap.size (by simp)).trans (heap_alloc_new w (.cells #[.int .i64 (f : Int), .int .i64 0, .int .i64 0, .int .i64 (m : Int)] 61))
    clear b1
    have d1 : w1.cell? ⟨w.heap.size, 1, none⟩ = some (.int .i64 0) := by rw [cell_of_row _ _ _ _ _ _ bxw1]; rfl
    have d2 : w1.cell? ⟨w.heap.size, 2, none⟩ = some (.int .i64 0) := by rw [cell_of_row _ _ _ _ _ _ bxw1]; rfl
    have d3 : w1.cell? ⟨w.heap.size, 3, none⟩ = some (.int .i64 (m : Int)) := by rw [cell_of_row _ _ _ _ _ _ bxw1]; rfl
    generalize hL1 : [] ++ putU 1 f = L1 at *
    have HL1 := Lib.hid hL1
    clear hL1
    go_wp2_with fail
    refine (putuint_p A1 m1 c1 L1 2 0 _ (s1.keep (Below.refl _ _)) (by omega) (by omega)).mono ?_
    rintro e w2 ⟨A2, m2, c2, rfl, s2, b2⟩
    have hm2 : m2 ≤ 60 := by
      have h1 := s2.len
      rw [nats_length, List.length_append] at h1
      have h3 := s1.len
      rw [nats_length] at h3
      have h2 := putU_len 2 0
      first | omega | (simp at h1 h2; omega) | (have hmag : magicB.length = 3 := rfl; omega)
    have B2 := below_trans' B1 b2
    have bxw2 := (B2.block w.heap.size (by simp)).trans (heap_alloc_new w (.cells #[.int .i64 (f : Int), .int .i64 0, .int .i64 0, .int .i64 (m : Int)] 61))
    clear b2 s1 bxw1 d1 d2 d3
    have d1 : w2.cell? ⟨w.heap.size, 1, none⟩ = some (.int .i64 0) := by rw [cell_of_row _ _ _ _ _ _ bxw2]; rfl
    have d2 : w2.cell? ⟨w.heap.size, 2, none⟩ = some (.int .i64 0) := by rw [cell_of_row _ _ _ _ _ _ bxw2]; rfl
    have d3 : w2.cell? ⟨w.heap.size, 3, none⟩ = some (.int .i64 (m : Int)) := by rw [cell_of_row _ _ _ _ _ _ bxw2]; rfl
    generalize hL2 : L1 ++ putU 2 0 = L2 at *
    have HL2 := Lib.hid hL2
    clear hL2
    go_wp2_with fail
    refine (putuint_p A2 m2 c2 L2 3 0 _ (s2.keep (Below.refl _ _)) (by omega) (by omega)).mono ?_
    rintro e w3 ⟨A3, m3, c3, rfl, s3, b3⟩
    have hm3 : m3 ≤ 90 := by
      have h1 := s3.len
      rw [nats_length, List.length_append] at h1
      have h3 := s2.len
      rw [nats_length] at h3
      have h2 := putU_len 3 0
      first | omega | (simp at h1 h2; omega) | (have hmag : magicB.length = 3 := rfl; omega)
    have B3 := below_trans' B2 b3
    have bxw3 := (B3.block w.heap.size (by simp)).trans (heap_alloc_new w (.cells #[.int .i64 (f : Int), .int .i64 0, .int .i64 0, .int .i64 (m : Int)] 61))
    clear b3 s2 bxw2 d1 d2 d3
    have d1 : w3.cell? ⟨w.heap.size, 1, none⟩ = some (.int .i64 0) := by rw [cell_of_row _ _ _ _ _ _ bxw3]; rfl
    have d2 : w3.cell? ⟨w.heap.size, 2, none⟩ = some (.int .i64 0) := by rw [cell_of_row _ _ _ _ _ _ bxw3]; rfl
    have d3 : w3.cell? ⟨w.heap.size, 3, none⟩ = some (.int .i64 (m : Int)) := by rw [cell_of_row _ _ _ _ _ _ bxw3]; rfl
    generalize hL3 : L2 ++ putU 3 0 = L3 at *
    have HL3 := Lib.hid hL3
    clear hL3
    go_wp2_with fail
    refine (putbytes_p A3 m3 c3 L3 4 (some ⟨w3.heap.size, 0, none⟩) 2 2 [0, 12] _ (s3.keep (below_new _ _)) (Sl.litw w3 [.int .u8 0, .int .u8 12] 2 _ (0, 0) rfl (by decide) (by decide)) (by omega) (by omega)).mono ?_
    rintro e w4 ⟨A4, m4, c4, rfl, s4, b4⟩
    have hm4 : m4 ≤ 120 := by
      have h1 := s4.len
      rw [nats_length, List.length_append] at h1
      have h3 := s3.len
      rw [nats_length] at h3
      have h2 := putT_len 4 [0, 12]
      first | omega | (simp at h1 h2; omega) | (have hmag : magicB.length = 3 := rfl; omega)
    have B4 := below_trans' B3 (below_trans' (below_new w3 (.cells #[.int .u8 0, .int .u8 12] 5 (0, 0))) b4)
    have bxw4 := (B4.block w.heap.size (by simp)).trans (heap_alloc_new w (.cells #[.int .i64 (f : Int), .int .i64 0, .int .i64 0, .int .i64 (m : Int)] 61))
    clear b4 s3 bxw3 d1 d2 d3
    have d1 : w4.cell? ⟨w.heap.size, 1, none⟩ = some (.int .i64 0) := by rw [cell_of_row _ _ _ _ _ _ bxw4]; rfl
    have d2 : w4.cell? ⟨w.heap.size, 2, none⟩ = some (.int .i64 0) := by rw [cell_of_row _ _ _ _ _ _ bxw4]; rfl
    have d3 : w4.cell? ⟨w.heap.size, 3, none⟩ = some (.int .i64 (m : Int)) := by rw [cell_of_row _ _ _ _ _ _ bxw4]; rfl
    generalize hL4 : L3 ++ putT 4 [0, 12] = L4 at *
    have HL4 := Lib.hid hL4
    clear hL4
    go_wp2_with fail
    refine (putuint_p A4 m4 c4 L4 5 m _ (s4.keep (Below.refl _ _)) (by omega) (by omega)).mono ?_
    rintro e w5 ⟨A5, m5, c5, rfl, s5, b5⟩
    have hm5 : m5 ≤ 150 := by
      have h1 := s5.len
      rw [nats_length, List.length_append] at h1
      have h3 := s4.len
      rw [nats_length] at h3
      have h2 := putU_len 5 m
      first | omega | (simp at h1 h2; omega) | (have hmag : magicB.length = 3 := rfl; omega)
    have B5 := below_trans' B4 b5
    have bxw5 := (B5.block w.heap.size (by simp)).trans (heap_alloc_new w (.cells #[.int .i64 (f : Int), .int .i64 0, .int .i64 0, .int .i64 (m : Int)] 61))
    clear b5 s4 bxw4 d1 d2 d3
    have d1 : w5.cell? ⟨w.heap.size, 1, none⟩ = some (.int .i64 0) := by rw [cell_of_row _ _ _ _ _ _ bxw5]; rfl
    have d2 : w5.cell? ⟨w.heap.size, 2, none⟩ = some (.int .i64 0) := by rw [cell_of_row _ _ _ _ _ _ bxw5]; rfl
    have d3 : w5.cell? ⟨w.heap.size, 3, none⟩ = some (.int .i64 (m : Int)) := by rw [cell_of_row _ _ _ _ _ _ bxw5]; rfl
    generalize hL5 : L4 ++ putU 5 m = L5 at *
    have HL5 := Lib.hid hL5
    clear hL5
    go_wp2_with fail
    refine (putuint_p A5 m5 c5 L5 6 1 _ (s5.keep (Below.refl _ _)) (by omega) (by omega)).mono ?_
    rintro e w6 ⟨A6, m6, c6, rfl, s6, b6⟩
    have hm6 : m6 ≤ 180 := by
      have h1 := s6.len
      rw [nats_length, List.length_append] at h1
      have h3 := s5.len
      rw [nats_length] at h3
      have h2 := putU_len 6 1
      first | omega | (simp at h1 h2; omega) | (have hmag : magicB.length = 3 := rfl; omega)
    have B6 := below_trans' B5 b6
    have bxw6 := (B6.block w.heap.size (by simp)).trans (heap_alloc_new w (.cells #[.int .i64 (f : Int), .int .i64 0, .int .i64 0, .int .i64 (m : Int)] 61))
    clear b6 s5 bxw5 d1 d2 d3
    have d1 : w6.cell? ⟨w.heap.size, 1, none⟩ = some (.int .i64 0) := by rw [cell_of_row _ _ _ _ _ _ bxw6]; rfl
    have d2 : w6.cell? ⟨w.heap.size, 2, none⟩ = some (.int .i64 0) := by rw [cell_of_row _ _ _ _ _ _ bxw6]; rfl
    have d3 : w6.cell? ⟨w.heap.size, 3, none⟩ = some (.int .i64 (m : Int)) := by rw [cell_of_row _ _ _ _ _ _ bxw6]; rfl
    generalize hL6 : L5 ++ putU 6 1 = L6 at *
    have HL6 := Lib.hid hL6
    clear hL6
    go_wp2_with fail
    refine (putbytes_p A6 m6 c6 L6 8000 (some ⟨w6.heap.size, 0, none⟩) 3 3 magicB _ (s6.keep (below_new _ _)) (Sl.litw w6 [.int .u8 79, .int .u8 82, .int .u8 67] 3 _ (3, 4) rfl (by decide) (by decide)) (by omega) (by omega)).mono ?_
    rintro e w7 ⟨A7, m7, c7, rfl, s7, b7⟩
    have hm7 : m7 ≤ 210 := by
      have h1 := s7.len
      rw [nats_length, List.length_append] at h1
      have h3 := s6.len
      rw [nats_length] at h3
      have h2 := putT_len 8000 magicB
      first | omega | (simp at h1 h2; omega) | (have hmag : magicB.length = 3 := rfl; omega)
    have B7 := below_trans' B6 (below_trans' (below_new w6 (.cells #[.int .u8 79, .int .u8 82, .int .u8 67] 5 (3, 4))) b7)
    have bxw7 := (B7.block w.heap.size (by simp)).trans (heap_alloc_new w (.cells #[.int .i64 (f : Int), .int .i64 0, .int .i64 0, .int .i64 (m : Int)] 61))
    clear b7 s6 bxw6 d1 d2 d3
    have d1 : w7.cell? ⟨w.heap.size, 1, none⟩ = some (.int .i64 0) := by rw [cell_of_row _ _ _ _ _ _ bxw7]; rfl
    have d2 : w7.cell? ⟨w.heap.size, 2, none⟩ = some (.int .i64 0) := by rw [cell_of_row _ _ _ _ _ _ bxw7]; rfl
    have d3 : w7.cell? ⟨w.heap.size, 3, none⟩ = some (.int .i64 (m : Int)) := by rw [cell_of_row _ _ _ _ _ _ bxw7]; rfl
    generalize hL7 : L6 ++ putT 8000 magicB = L7 at *
    have HL7 := Lib.hid hL7
    clear hL7
    have HB7 := Lib.hid B7
    clear d1 d2 d3 bxw7 B1 B2 B3 B4 B5 B6 B7
    have HS7 := Lib.hid s7
    clear s7
    go_wp2_with fail
    go_ret2
    refine ⟨A7, m7, c7, rfl, ?_, ((Below.refl _ _).alloc (Nat.le_refl _) _).trans (HB7.out.mono (by simp))⟩
    have hs := HS7.out
    rw [← HL7.out, ← HL6.out, ← HL5.out, ← HL4.out, ← HL3.out, ← HL2.out, ← HL1.out] at hs
    rw [show putsB (encP f 0 0 m) = _ from enc_bytes f 0 0 m]
    exact hs
  · have hk4 := Hk4.out h4
    obtain ⟨hk1, hk2⟩ := hk4
    subst h4
    have i3 := I3.out (w.alloc (.cells #[.int .i64 (f : Int), .int .i64 4, .int .i64 (k : Int), .int .i64 (m : Int)] 61))
    rw [show (decide ((64 : Int) ≤ (k : Int)) && decide ((k : Int) ≤ 65536)) = true from by simp; omega] at i3
    have I3' := Lib.hid i3
    clear Hk4 Hk0 Hc hcc Hcod I1 I2 I3 i3
    go_wp2_with fail
    refine I3'.out.mono ?_
    rintro e w' ⟨rfl, rfl⟩
    clear I3'
    go_wp2_with fail
    refine (putuint_p none 0 0 [] 1 f _ (Sl.none_ _) (by omega) (by omega)).mono ?_
    rintro e w1 ⟨A1, m1, c1, rfl, s1, b1⟩
    have hm1 : m1 ≤ 30 := by
      have h1 := s1.len
      rw [nats_length, List.length_append] at h1
      have h2 := putU_len 1 f
      first | omega | (simp at h1 h2; omega) | (have hmag : magicB.length = 3 := rfl; omega)
    have B1 := b1
    have bxw1 := (B1.block w.heap.size (by simp)).trans (heap_alloc_new w (.cells #[.int .i64 (f : Int), .int .i64 4, .int .i64 (k : Int), .int .i64 (m : Int)] 61))
    clear b1
    have d1 : w1.cell? ⟨w.heap.size, 1, none⟩ = some (.int .i64 4) := by rw [cell_of_row _ _ _ _ _ _ bxw1]; rfl
    have d2 : w1.cell? ⟨w.heap.size, 2, none⟩ = some (.int .i64 (k : Int)) := by rw [cell_of_row _ _ _ _ _ _ bxw1]; rfl
    have d3 : w1.cell? ⟨w.heap.size, 3, none⟩ = some (.int .i64 (m : Int)) := by rw [cell_of_row _ _ _ _ _ _ bxw1]; rfl
    generalize hL1 : [] ++ putU 1 f = L1 at *
    have HL1 := Lib.hid hL1
    clear hL1
    go_wp2_with fail
    refine (putuint_p A1 m1 c1 L1 2 4 _ (s1.keep (Below.refl _ _)) (by omega) (by omega)).mono ?_
    rintro e w2 ⟨A2, m2, c2, rfl, s2, b2⟩
    have hm2 : m2 ≤ 60 := by
      have h1 := s2.len
      rw [nats_length, List.length_append] at h1
      have h3 := s1.len
      rw [nats_length] at h3
      have h2 := putU_len 2 4
      first | omega | (simp at h1 h2; omega) | (have hmag : magicB.length = 3 := rfl; omega)
    have B2 := below_trans' B1 b2
    have bxw2 := (B2.block w.heap.size (by simp)).trans (heap_alloc_new w (.cells #[.int .i64 (f : Int), .int .i64 4, .int .i64 (k : Int), .int .i64 (m : Int)] 61))
    clear b2 s1 bxw1 d1 d2 d3
    have d1 : w2.cell? ⟨w.heap.size, 1, none⟩ = some (.int .i64 4) := by rw [cell_of_row _ _ _ _ _ _ bxw2]; rfl
    have d2 : w2.cell? ⟨w.heap.size, 2, none⟩ = some (.int .i64 (k : Int)) := by rw [cell_of_row _ _ _ _ _ _ bxw2]; rfl
    have d3 : w2.cell? ⟨w.heap.size, 3, none⟩ = some (.int .i64 (m : Int)) := by rw [cell_of_row _ _ _ _ _ _ bxw2]; rfl
    generalize hL2 : L1 ++ putU 2 4 = L2 at *
    have HL2 := Lib.hid hL2
    clear hL2
    go_wp2_with fail
    refine (putuint_p A2 m2 c2 L2 3 k _ (s2.keep (Below.refl _ _)) (by omega) (by omega)).mono ?_
    rintro e w3 ⟨A3, m3, c3, rfl, s3, b3⟩
    have hm3 : m3 ≤ 90 := by
      have h1 := s3.len
      rw [nats_length, List.length_append] at h1
      have h3 := s2.len
      rw [nats_length] at h3
      have h2 := putU_len 3 k
      first | omega | (simp at h1 h2; omega) | (have hmag : magicB.length = 3 := rfl; omega)
    have B3 := below_trans' B2 b3
    have bxw3 := (B3.block w.heap.size (by simp)).trans (heap_alloc_new w (.cells #[.int .i64 (f : Int), .int .i64 4, .int .i64 (k : Int), .int .i64 (m : Int)] 61))
    clear b3 s2 bxw2 d1 d2 d3
    have d1 : w3.cell? ⟨w.heap.size, 1, none⟩ = some (.int .i64 4) := by rw [cell_of_row _ _ _ _ _ _ bxw3]; rfl
    have d2 : w3.cell? ⟨w.heap.size, 2, none⟩ = some (.int .i64 (k : Int)) := by rw [cell_of_row _ _ _ _ _ _ bxw3]; rfl
    have d3 : w3.cell? ⟨w.heap.size, 3, none⟩ = some (.int .i64 (m : Int)) := by rw [cell_of_row _ _ _ _ _ _ bxw3]; rfl
    generalize hL3 : L2 ++ putU 3 k = L3 at *
    have HL3 := Lib.hid hL3
    clear hL3
    go_wp2_with fail
    refine (putbytes_p A3 m3 c3 L3 4 (some ⟨w3.heap.size, 0, none⟩) 2 2 [0, 12] _ (s3.keep (below_new _ _)) (Sl.litw w3 [.int .u8 0, .int .u8 12] 2 _ (0, 0) rfl (by decide) (by decide)) (by omega) (by omega)).mono ?_
    rintro e w4 ⟨A4, m4, c4, rfl, s4, b4⟩
    have hm4 : m4 ≤ 120 := by
      have h1 := s4.len
      rw [nats_length, List.length_append] at h1
      have h3 := s3.len
      rw [nats_length] at h3
      have h2 := putT_len 4 [0, 12]
      first | omega | (simp at h1 h2; omega) | (have hmag : magicB.length = 3 := rfl; omega)
    have B4 := below_trans' B3 (below_trans' (below_new w3 (.cells #[.int .u8 0, .int .u8 12] 5 (0, 0))) b4)
    have bxw4 := (B4.block w.heap.size (by simp)).trans (heap_alloc_new w (.cells #[.int .i64 (f : Int), .int .i64 4, .int .i64 (k : Int), .int .i64 (m : Int)] 61))
    clear b4 s3 bxw3 d1 d2 d3
    have d1 : w4.cell? ⟨w.heap.size, 1, none⟩ = some (.int .i64 4) := by rw [cell_of_row _ _ _ _ _ _ bxw4]; rfl
    have d2 : w4.cell? ⟨w.heap.size, 2, none⟩ = some (.int .i64 (k : Int)) := by rw [cell_of_row _ _ _ _ _ _ bxw4]; rfl
    have d3 : w4.cell? ⟨w.heap.size, 3, none⟩ = some (.int .i64 (m : Int)) := by rw [cell_of_row _ _ _ _ _ _ bxw4]; rfl
    generalize hL4 : L3 ++ putT 4 [0, 12] = L4 at *
    have HL4 := Lib.hid hL4
    clear hL4
    go_wp2_with fail
    refine (putuint_p A4 m4 c4 L4 5 m _ (s4.keep (Below.refl _ _)) (by omega) (by omega)).mono ?_
    rintro e w5 ⟨A5, m5, c5, rfl, s5, b5⟩
    have hm5 : m5 ≤ 150 := by
      have h1 := s5.len
      rw [nats_length, List.length_append] at h1
      have h3 := s4.len
      rw [nats_length] at h3
      have h2 := putU_len 5 m
      first | omega | (simp at h1 h2; omega) | (have hmag : magicB.length = 3 := rfl; omega)
    have B5 := below_trans' B4 b5
    have bxw5 := (B5.block w.heap.size (by simp)).trans (heap_alloc_new w (.cells #[.int .i64 (f : Int), .int .i64 4, .int .i64 (k : Int), .int .i64 (m : Int)] 61))
    clear b5 s4 bxw4 d1 d2 d3
    have d1 : w5.cell? ⟨w.heap.size, 1, none⟩ = some (.int .i64 4) := by rw [cell_of_row _ _ _ _ _ _ bxw5]; rfl
    have d2 : w5.cell? ⟨w.heap.size, 2, none⟩ = some (.int .i64 (k : Int)) := by rw [cell_of_row _ _ _ _ _ _ bxw5]; rfl
    have d3 : w5.cell? ⟨w.heap.size, 3, none⟩ = some (.int .i64 (m : Int)) := by rw [cell_of_row _ _ _ _ _ _ bxw5]; rfl
    generalize hL5 : L4 ++ putU 5 m = L5 at *
    have HL5 := Lib.hid hL5
    clear hL5
    go_wp2_with fail
    refine (putuint_p A5 m5 c5 L5 6 1 _ (s5.keep (Below.refl _ _)) (by omega) (by omega)).mono ?_
    rintro e w6 ⟨A6, m6, c6, rfl, s6, b6⟩
    have hm6 : m6 ≤ 180 := by
      have h1 := s6.len
      rw [nats_length, List.length_append] at h1
      have h3 := s5.len
      rw [nats_length] at h3
      have h2 := putU_len 6 1
      first | omega | (simp at h1 h2; omega) | (have hmag : magicB.length = 3 := rfl; omega)
    have B6 := below_trans' B5 b6
    have bxw6 := (B6.block w.heap.size (by simp)).trans (heap_alloc_new w (.cells #[.int .i64 (f : Int), .int .i64 4, .int .i64 (k : Int), .int .i64 (m : Int)] 61))
    clear b6 s5 bxw5 d1 d2 d3
    have d1 : w6.cell? ⟨w.heap.size, 1, none⟩ = some (.int .i64 4) := by rw [cell_of_row _ _ _ _ _ _ bxw6]; rfl
    have d2 : w6.cell? ⟨w.heap.size, 2, none⟩ = some (.int .i64 (k : Int)) := by rw [cell_of_row _ _ _ _ _ _ bxw6]; rfl
    have d3 : w6.cell? ⟨w.heap.size, 3, none⟩ = some (.int .i64 (m : Int)) := by rw [cell_of_row _ _ _ _ _ _ bxw6]; rfl
    generalize hL6 : L5 ++ putU 6 1 = L6 at *
    have HL6 := Lib.hid hL6
    clear hL6
    go_wp2_with fail
    refine (putbytes_p A6 m6 c6 L6 8000 (some ⟨w6.heap.size, 0, none⟩) 3 3 magicB _ (s6.keep (below_new _ _)) (Sl.litw w6 [.int .u8 79, .int .u8 82, .int .u8 67] 3 _ (3, 4) rfl (by decide) (by decide)) (by omega) (by omega)).mono ?_
    rintro e w7 ⟨A7, m7, c7, rfl, s7, b7⟩
    have hm7 : m7 ≤ 210 := by
      have h1 := s7.len
      rw [nats_length, List.length_append] at h1
      have h3 := s6.len
      rw [nats_length] at h3
      have h2 := putT_len 8000 magicB
      first | omega | (simp at h1 h2; omega) | (have hmag : magicB.length = 3 := rfl; omega)
    have B7 := below_trans' B6 (below_trans' (below_new w6 (.cells #[.int .u8 79, .int .u8 82, .int .u8 67] 5 (3, 4))) b7)
    have bxw7 := (B7.block w.heap.size (by simp)).trans (heap_alloc_new w (.cells #[.int .i64 (f : Int), .int .i64 4, .int .i64 (k : Int), .int .i64 (m : Int)] 61))
    clear b7 s6 bxw6 d1 d2 d3
    have d1 : w7.cell? ⟨w.heap.size, 1, none⟩ = some (.int .i64 4) := by rw [cell_of_row _ _ _ _ _ _ bxw7]; rfl
    have d2 : w7.cell? ⟨w.heap.size, 2, none⟩ = some (.int .i64 (k : Int)) := by rw [cell_of_row _ _ _ _ _ _ bxw7]; rfl
    have d3 : w7.cell? ⟨w.heap.size, 3, none⟩ = some (.int .i64 (m : Int)) := by rw [cell_of_row _ _ _ _ _ _ bxw7]; rfl
    generalize hL7 : L6 ++ putT 8000 magicB = L7 at *
    have HL7 := Lib.hid hL7
    clear hL7
    have HB7 := Lib.hid B7
    clear d1 d2 d3 bxw7 B1 B2 B3 B4 B5 B6 B7
    have HS7 := Lib.hid s7
    clear s7
    go_wp2_with fail
    go_ret2
    refine ⟨A7, m7, c7, rfl, ?_, ((Below.refl _ _).alloc (Nat.le_refl _) _).trans (HB7.out.mono (by simp))⟩
    have hs := HS7.out
    rw [← HL7.out, ← HL6.out, ← HL5.out, ← HL4.out, ← HL3.out, ← HL2.out, ← HL1.out] at hs
    rw [show putsB (encP f 4 k m) = _ from enc_bytes f 4 k m]
    exact hs

set_option maxHeartbeats 3200000 in
theorem encode_7 (f c k m : Int) (w : World) (hc : InI c) (h0 : c ≠ 0) (h4 : c ≠ 4) :
    Calls Try.prog 34 #[.agg #[.int .i64 f, .int .i64 c, .int .i64 k, .int .i64 m]] w fun e w' => EncOut w ([], 7) e w' := by
  obtain ⟨x, hx⟩ : ∃ x : Nat, IntKind.u64.wrap c = (x : Int) := ⟨(IntKind.u64.wrap c).toNat, by rw [IntKind.wrap_u64]; omega⟩
  have hx0 : (x == 0) = false := beq_eq_false_iff_ne.2 (by rintro rfl; rw [IntKind.wrap_u64] at hx; have := hc.1; have := hc.2; omega)
  have hx4 : (x == 4) = false := beq_eq_false_iff_ne.2 (by rintro rfl; rw [IntKind.wrap_u64] at hx; have := hc.1; have := hc.2; omega)
  have hx64 : x < 18446744073709551616 := by rw [IntKind.wrap_u64] at hx; omega
  have Hx := Lib.hid hx
  clear hx hc h0 h4
  go_enter Try.func34, Try.ntmps34
  go_wp2_with fail
  rw [Hx.out]
  refine (codec_p x _ hx64).mono ?_
  rintro e w' ⟨rfl, rfl⟩
  rw [hx0, hx4]
  go_wp2_with fail
  go_ret2
  exact EncOut.bad (below_new _ _)

set_option maxHeartbeats 3200000 in
set_option maxRecDepth 100000 in
theorem encode_1 (f k m : Int) (c : Nat) (w : World) (hc : c = 0 ∨ c = 4) (hbad : ¬ encOk f c k m) :
    Calls Try.prog 34 #[.agg #[.int .i64 f, .int .i64 (c : Int), .int .i64 k, .int .i64 m]] w fun e w' => EncOut w ([], 1) e w' := by
  have hcc : (c == 0 || c == 4) = true := by rcases hc with h | h <;> subst h <;> rfl
  have hcod := codec_p c (w.alloc (.cells #[.int .i64 f, .int .i64 (c : Int), .int .i64 k, .int .i64 m] 61)) (by omega)
  rw [hcc] at hcod
  have i1 := fun W => inside_p f 0 65536 W
  have i2 := fun W => inside_p m 0 65536 W
  have i3 := fun W => inside_p k 64 65536 W
  have hcb : c ≤ 4 := by omega
  have Hcod := Lib.hid hcod
  have I2 := Lib.hid i2
  have I3 := Lib.hid i3
  by_cases hf : 0 ≤ f ∧ f ≤ 65536
  · rw [show (decide ((0 : Int) ≤ f) && decide (f ≤ 65536)) = true from by simp; omega] at i1
    have I1 := Lib.hid i1
    by_cases hm : 0 ≤ m ∧ m ≤ 65536
    · rw [show (decide ((0 : Int) ≤ m) && decide (m ≤ 65536)) = true from by simp; omega] at i2
      have I2 := Lib.hid i2
      rcases hc with h0 | h4
      · subst h0
        have hk : k ≠ 0 := fun e => hbad ⟨hf, hm, (fun h => by omega), (fun _ => e)⟩
        have hkk : (k != 0) = true := by simpa using hk
        clear hbad hf hm i1 i2 i3 hcc hcod hk
        go_enter Try.func34, Try.ntmps34
        go_wp2_with fail
        refine Hcod.out.mono ?_
        rintro e w' ⟨rfl, rfl⟩
        go_wp2_with fail
        refine (I1.out _).mono ?_
        rintro e w' ⟨rfl, rfl⟩
        go_wp2_with fail
        refine (I2.out _).mono ?_
        rintro e w' ⟨rfl, rfl⟩
        go_wp2_with fail
        go_ret2
        exact EncOut.bad (below_new _ _)
      · subst h4
        have hk : ¬ (64 ≤ k ∧ k ≤ 65536) := fun e => hbad ⟨hf, hm, (fun _ => e), (fun h => by omega)⟩
        rw [show (decide ((64 : Int) ≤ k) && decide (k ≤ 65536)) = false from by
          rw [Bool.and_eq_false_iff]
          by_cases h : 64 ≤ k
          · exact .inr (decide_eq_false fun h2 => hk ⟨h, h2⟩)
          · exact .inl (decide_eq_false h)] at i3
        have I3 := Lib.hid i3
        clear hbad hf hm i1 i2 i3 hcc hcod hk
        go_enter Try.func34, Try.ntmps34
        go_wp2_with fail
        refine Hcod.out.mono ?_
        rintro e w' ⟨rfl, rfl⟩
        go_wp2_with fail
        refine (I1.out _).mono ?_
        rintro e w' ⟨rfl, rfl⟩
        go_wp2_with fail
        refine (I2.out _).mono ?_
        rintro e w' ⟨rfl, rfl⟩
        go_wp2_with fail
        refine (I3.out _).mono ?_
        rintro e w' ⟨rfl, rfl⟩
        go_wp2_with fail
        go_ret2
        exact EncOut.bad (below_new _ _)
    · rw [show (decide ((0 : Int) ≤ m) && decide (m ≤ 65536)) = false from by
        rw [Bool.and_eq_false_iff]
        by_cases h : 0 ≤ m
        · exact .inr (decide_eq_false fun h2 => hm ⟨h, h2⟩)
        · exact .inl (decide_eq_false h)] at i2
      have I2 := Lib.hid i2
      clear hbad hf hm i1 i2 i3 hcc hcod hc
      go_enter Try.func34, Try.ntmps34
      go_wp2_with fail
      refine Hcod.out.mono ?_
      rintro e w' ⟨rfl, rfl⟩
      go_wp2_with fail
      refine (I1.out _).mono ?_
      rintro e w' ⟨rfl, rfl⟩
      go_wp2_with fail
      refine (I2.out _).mono ?_
      rintro e w' ⟨rfl, rfl⟩
      go_wp2_with fail
      go_ret2
      exact EncOut.bad (below_new _ _)
  · rw [show (decide ((0 : Int) ≤ f) && decide (f ≤ 65536)) = false from by
      rw [Bool.and_eq_false_iff]
      by_cases h : 0 ≤ f
      · exact .inr (decide_eq_false fun h2 => hf ⟨h, h2⟩)
      · exact .inl (decide_eq_false h)] at i1
    have I1 := Lib.hid i1
    clear hbad hf i1 i2 i3 hcc hcod hc
    go_enter Try.func34, Try.ntmps34
    go_wp2_with fail
    refine Hcod.out.mono ?_
    rintro e w' ⟨rfl, rfl⟩
    go_wp2_with fail
    refine (I1.out _).mono ?_
    rintro e w' ⟨rfl, rfl⟩
    go_wp2_with fail
    go_ret2
    exact EncOut.bad (below_new _ _)

theorem encode_p (f c k m : Int) (w : World) (hc : InI c) :
    Calls Try.prog 34 #[.agg #[.int .i64 f, .int .i64 c, .int .i64 k, .int .i64 m]] w fun e w' => EncOut w (encS f c k m) e w' := by
  unfold encS
  by_cases h : c ≠ 0 ∧ c ≠ 4
  · rw [if_pos h]
    exact encode_7 f c k m w hc h.1 h.2
  · rw [if_neg h]
    obtain ⟨c', rfl⟩ : ∃ n : Nat, c = n := ⟨c.toNat, by omega⟩
    have hc' : c' = 0 ∨ c' = 4 := by omega
    by_cases hok : encOk f c' k m
    · rw [if_neg (by simpa using hok)]
      obtain ⟨h1, h2, h3, h4⟩ := hok
      have hk : 0 ≤ k := by
        rcases hc' with e | e
        · have := h4 (by omega); omega
        · have := h3 (by omega); omega
      obtain ⟨f', rfl⟩ : ∃ n : Nat, f = n := ⟨f.toNat, by omega⟩
      obtain ⟨k', rfl⟩ : ∃ n : Nat, k = n := ⟨k.toNat, by omega⟩
      obtain ⟨m', rfl⟩ : ∃ n : Nat, m = n := ⟨m.toNat, by omega⟩
      exact encode_good f' c' k' m' w hc' (by omega) (by omega) (fun e => by have := h3 (by omega); omega) (fun e => by have := h4 (by omega); omega)
    · rw [if_pos hok]
      exact encode_1 f k m c' w hc' hok
end Go.Proofs.Ytihclbiohljmlaa
