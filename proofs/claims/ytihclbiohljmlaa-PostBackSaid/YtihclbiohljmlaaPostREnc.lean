/- The reference's Encode of a postscript: what it answers. (Printed by gen/postenc.py.) -/
import Derived.Test.YtihclbiohljmlaaPostEnc
namespace Go.Proofs.Ytihclbiohljmlaa
open Go.RowKit
set_option linter.unusedVariables false

set_option maxHeartbeats 3200000 in
set_option maxRecDepth 100000 in
theorem rencode_good (f c k m : Nat) (w : World) (hc : c = 0 ∨ c = 4) (hf : f ≤ 65536) (hm : m ≤ 65536) (hk4 : c = 4 → 64 ≤ k ∧ k ≤ 65536) (hk0 : c = 0 → k = 0) :
    Calls Try.prog 35 #[.agg #[.int .i64 (f : Int), .int .i64 (c : Int), .int .i64 (k : Int), .int .i64 (m : Int)]] w fun e w' => EncOut w (putsB (encP f c k m), 0) e w' := by
  have kc := fun (w : World) (C : Array Value) (n c : Nat) => Lib.run_convert_bytes_const (P := Try.prog) w 22 5 C n c Try.underlying22 Try.underlying5
  rcases hc with h0 | h4
  · have hk0' := hk0 h0
    subst h0 hk0'
    clear hk4 hk0
    go_enter Try.func35, Try.ntmps35
    go_wp2_with fail
    refine (putuint_rg (w.heap.size + 1) 0 [] 1 f (.slice none 0 0) _ (World.ownsRow_nil _ _ _ _) (by simp) (by omega) (by omega)).mono ?_
    rintro e w1 ⟨v1, rfl, o1, b1, _⟩
    have h21 := putU_len 1 f
    generalize hm1 : 0 + (putU 1 f).length = m1 at *
    have hmm1 : m1 ≤ 30 := by first | omega | (simp at h21; omega) | (have hmag : magicB.length = 3 := rfl; omega)
    have B1 := b1
    have bxw1 := (B1.block w.heap.size (by omega)).trans (heap_alloc_new w (.cells #[.int .i64 (f : Int), .int .i64 0, .int .i64 0, .int .i64 (m : Int)] 64))
    have hs1 := B1.size
    simp at hs1
    clear b1 hm1 h21
    have d1 : w1.cell? ⟨w.heap.size, 1, none⟩ = some (.int .i64 0) := by rw [cell_of_row _ _ _ _ _ _ bxw1]; rfl
    have d2 : w1.cell? ⟨w.heap.size, 2, none⟩ = some (.int .i64 0) := by rw [cell_of_row _ _ _ _ _ _ bxw1]; rfl
    have d3 : w1.cell? ⟨w.heap.size, 3, none⟩ = some (.int .i64 (m : Int)) := by rw [cell_of_row _ _ _ _ _ _ bxw1]; rfl
    generalize hL1 : [] ++ putU 1 f = L1 at *
    have HL1 := Lib.hid hL1
    clear hL1
    go_wp2_with fail
    refine (putuint_rg (w.heap.size + 1) m1 L1 2 0 v1 _ o1 (by omega) (by omega) (by omega)).mono ?_
    rintro e w2 ⟨v2, rfl, o2, b2, _⟩
    have h22 := putU_len 2 0
    generalize hm2 : m1 + (putU 2 0).length = m2 at *
    have hmm2 : m2 ≤ 60 := by first | omega | (simp at h22; omega) | (have hmag : magicB.length = 3 := rfl; omega)
    have B2 := B1.trans b2
    have bxw2 := (B2.block w.heap.size (by omega)).trans (heap_alloc_new w (.cells #[.int .i64 (f : Int), .int .i64 0, .int .i64 0, .int .i64 (m : Int)] 64))
    have hs2 := B2.size
    simp at hs2
    clear b2 o1 bxw1 d1 d2 d3 hm2 h22 hs1
    have d1 : w2.cell? ⟨w.heap.size, 1, none⟩ = some (.int .i64 0) := by rw [cell_of_row _ _ _ _ _ _ bxw2]; rfl
    have d2 : w2.cell? ⟨w.heap.size, 2, none⟩ = some (.int .i64 0) := by rw [cell_of_row _ _ _ _ _ _ bxw2]; rfl
    have d3 : w2.cell? ⟨w.heap.size, 3, none⟩ = some (.int .i64 (m : Int)) := by rw [cell_of_row _ _ _ _ _ _ bxw2]; rfl
    generalize hL2 : L1 ++ putU 2 0 = L2 at *
    have HL2 := Lib.hid hL2
    clear hL2
    go_wp2_with fail
    refine (putuint_rg (w.heap.size + 1) m2 L2 3 0 v2 _ o2 (by omega) (by omega) (by omega)).mono ?_
    rintro e w3 ⟨v3, rfl, o3, b3, _⟩
    have h23 := putU_len 3 0
    generalize hm3 : m2 + (putU 3 0).length = m3 at *
    have hmm3 : m3 ≤ 90 := by first | omega | (simp at h23; omega) | (have hmag : magicB.length = 3 := rfl; omega)
    have B3 := B2.trans b3
    have bxw3 := (B3.block w.heap.size (by omega)).trans (heap_alloc_new w (.cells #[.int .i64 (f : Int), .int .i64 0, .int .i64 0, .int .i64 (m : Int)] 64))
    have hs3 := B3.size
    simp at hs3
    clear b3 o2 bxw2 d1 d2 d3 hm3 h23 hs2
    have d1 : w3.cell? ⟨w.heap.size, 1, none⟩ = some (.int .i64 0) := by rw [cell_of_row _ _ _ _ _ _ bxw3]; rfl
    have d2 : w3.cell? ⟨w.heap.size, 2, none⟩ = some (.int .i64 0) := by rw [cell_of_row _ _ _ _ _ _ bxw3]; rfl
    have d3 : w3.cell? ⟨w.heap.size, 3, none⟩ = some (.int .i64 (m : Int)) := by rw [cell_of_row _ _ _ _ _ _ bxw3]; rfl
    generalize hL3 : L2 ++ putU 3 0 = L3 at *
    have HL3 := Lib.hid hL3
    clear hL3
    go_wp2_with fail
    have oo4 := o3.alloc (.cells #[.int .u8 0, .int .u8 12] 5 (0, 0))
    refine (putbytes_rh (w.heap.size + 1) m3 L3 4 v3 (some ⟨w3.heap.size, 0, none⟩) 2 2 [0, 12] _ oo4 (by simp; omega) (Sl.litw w3 [.int .u8 0, .int .u8 12] 2 _ (0, 0) rfl (by decide) (by decide)) (fun w' v' _ hG => hG.low (Sl.litw w3 [.int .u8 0, .int .u8 12] 2 _ (0, 0) rfl (by decide) (by decide)) (fun ad had e => by injection had with had; subst had; have := (o3.lt _ e.symm).2; simp at this)) (by omega) (by omega)).mono ?_
    rintro e w4 ⟨v4, rfl, o4, b4, _⟩
    have h24 := putT_len 4 [0, 12]
    generalize hm4 : m3 + (putT 4 [0, 12]).length = m4 at *
    have hmm4 : m4 ≤ 120 := by first | omega | (simp at h24; omega) | (have hmag : magicB.length = 3 := rfl; omega)
    have B4 := (B3.alloc (by have := B3.size; simp at this; omega) (.cells #[.int .u8 0, .int .u8 12] 5 (0, 0))).trans b4
    have bxw4 := (B4.block w.heap.size (by omega)).trans (heap_alloc_new w (.cells #[.int .i64 (f : Int), .int .i64 0, .int .i64 0, .int .i64 (m : Int)] 64))
    have hs4 := B4.size
    simp at hs4
    clear b4 o3 bxw3 d1 d2 d3 hm4 h24 hs3 oo4
    have d1 : w4.cell? ⟨w.heap.size, 1, none⟩ = some (.int .i64 0) := by rw [cell_of_row _ _ _ _ _ _ bxw4]; rfl
    have d2 : w4.cell? ⟨w.heap.size, 2, none⟩ = some (.int .i64 0) := by rw [cell_of_row _ _ _ _ _ _ bxw4]; rfl
    have d3 : w4.cell? ⟨w.heap.size, 3, none⟩ = some (.int .i64 (m : Int)) := by rw [cell_of_row _ _ _ _ _ _ bxw4]; rfl
    generalize hL4 : L3 ++ putT 4 [0, 12] = L4 at *
    have HL4 := Lib.hid hL4
    clear hL4
    go_wp2_with fail
    refine (putuint_rg (w.heap.size + 1) m4 L4 5 m v4 _ o4 (by omega) (by omega) (by omega)).mono ?_
    rintro e w5 ⟨v5, rfl, o5, b5, _⟩
    have h25 := putU_len 5 m
    generalize hm5 : m4 + (putU 5 m).length = m5 at *
    have hmm5 : m5 ≤ 150 := by first | omega | (simp at h25; omega) | (have hmag : magicB.length = 3 := rfl; omega)
    have B5 := B4.trans b5
    have bxw5 := (B5.block w.heap.size (by omega)).trans (heap_alloc_new w (.cells #[.int .i64 (f : Int), .int .i64 0, .int .i64 0, .int .i64 (m : Int)] 64))
    have hs5 := B5.size
    simp at hs5
    clear b5 o4 bxw4 d1 d2 d3 hm5 h25 hs4
    have d1 : w5.cell? ⟨w.heap.size, 1, none⟩ = some (.int .i64 0) := by rw [cell_of_row _ _ _ _ _ _ bxw5]; rfl
    have d2 : w5.cell? ⟨w.heap.size, 2, none⟩ = some (.int .i64 0) := by rw [cell_of_row _ _ _ _ _ _ bxw5]; rfl
    have d3 : w5.cell? ⟨w.heap.size, 3, none⟩ = some (.int .i64 (m : Int)) := by rw [cell_of_row _ _ _ _ _ _ bxw5]; rfl
    generalize hL5 : L4 ++ putU 5 m = L5 at *
    have HL5 := Lib.hid hL5
    clear hL5
    go_wp2_with fail
    refine (putuint_rg (w.heap.size + 1) m5 L5 6 1 v5 _ o5 (by omega) (by omega) (by omega)).mono ?_
    rintro e w6 ⟨v6, rfl, o6, b6, _⟩
    have h26 := putU_len 6 1
    generalize hm6 : m5 + (putU 6 1).length = m6 at *
    have hmm6 : m6 ≤ 180 := by first | omega | (simp at h26; omega) | (have hmag : magicB.length = 3 := rfl; omega)
    have B6 := B5.trans b6
    have bxw6 := (B6.block w.heap.size (by omega)).trans (heap_alloc_new w (.cells #[.int .i64 (f : Int), .int .i64 0, .int .i64 0, .int .i64 (m : Int)] 64))
    have hs6 := B6.size
    simp at hs6
    clear b6 o5 bxw5 d1 d2 d3 hm6 h26 hs5
    have d1 : w6.cell? ⟨w.heap.size, 1, none⟩ = some (.int .i64 0) := by rw [cell_of_row _ _ _ _ _ _ bxw6]; rfl
    have d2 : w6.cell? ⟨w.heap.size, 2, none⟩ = some (.int .i64 0) := by rw [cell_of_row _ _ _ _ _ _ bxw6]; rfl
    have d3 : w6.cell? ⟨w.heap.size, 3, none⟩ = some (.int .i64 (m : Int)) := by rw [cell_of_row _ _ _ _ _ _ bxw6]; rfl
    generalize hL6 : L5 ++ putU 6 1 = L6 at *
    have HL6 := Lib.hid hL6
    clear hL6
    go_wp2_with fail
    have oo7 := o6.alloc (.cells #[.int .u8 79, .int .u8 82, .int .u8 67] 5 (3, 4))
    refine (putbytes_rh (w.heap.size + 1) m6 L6 8000 v6 (some ⟨w6.heap.size, 0, none⟩) 3 3 magicB _ oo7 (by simp; omega) (Sl.litw w6 [.int .u8 79, .int .u8 82, .int .u8 67] 3 _ (3, 4) rfl (by decide) (by decide)) (fun w' v' _ hG => hG.low (Sl.litw w6 [.int .u8 79, .int .u8 82, .int .u8 67] 3 _ (3, 4) rfl (by decide) (by decide)) (fun ad had e => by injection had with had; subst had; have := (o6.lt _ e.symm).2; simp at this)) (by omega) (by omega)).mono ?_
    rintro e w7 ⟨v7, rfl, o7, b7, _⟩
    have h27 := putT_len 8000 magicB
    generalize hm7 : m6 + (putT 8000 magicB).length = m7 at *
    have hmm7 : m7 ≤ 210 := by first | omega | (simp at h27; omega) | (have hmag : magicB.length = 3 := rfl; omega)
    have B7 := (B6.alloc (by have := B6.size; simp at this; omega) (.cells #[.int .u8 79, .int .u8 82, .int .u8 67] 5 (3, 4))).trans b7
    have bxw7 := (B7.block w.heap.size (by omega)).trans (heap_alloc_new w (.cells #[.int .i64 (f : Int), .int .i64 0, .int .i64 0, .int .i64 (m : Int)] 64))
    have hs7 := B7.size
    simp at hs7
    clear b7 o6 bxw6 d1 d2 d3 hm7 h27 hs6 oo7
    have d1 : w7.cell? ⟨w.heap.size, 1, none⟩ = some (.int .i64 0) := by rw [cell_of_row _ _ _ _ _ _ bxw7]; rfl
    have d2 : w7.cell? ⟨w.heap.size, 2, none⟩ = some (.int .i64 0) := by rw [cell_of_row _ _ _ _ _ _ bxw7]; rfl
    have d3 : w7.cell? ⟨w.heap.size, 3, none⟩ = some (.int .i64 (m : Int)) := by rw [cell_of_row _ _ _ _ _ _ bxw7]; rfl
    generalize hL7 : L6 ++ putT 8000 magicB = L7 at *
    have HL7 := Lib.hid hL7
    clear hL7
    have HB7 := Lib.hid B7
    clear d1 d2 d3 bxw7 B1 B2 B3 B4 B5 B6 B7
    obtain ⟨A7, c7, rfl, s7⟩ := Sl.of_own o7 (nats_one _ _)
    clear o7
    have HS7 := Lib.hid s7
    clear s7
    go_wp2_with fail
    go_ret2
    refine ⟨A7, m7, c7, rfl, ?_, ((Below.refl _ _).alloc (Nat.le_refl _) _).trans (HB7.out.mono (by simp))⟩
    have hs := HS7.out
    rw [← HL7.out, ← HL6.out, ← HL5.out, ← HL4.out, ← HL3.out, ← HL2.out, ← HL1.out] at hs
    rw [show putsB (encP f 0 0 m) = _ from enc_bytes f 0 0 m]
    exact hs
  · obtain ⟨hk1, hk2⟩ := hk4 h4
    subst h4
    clear hk0
    go_enter Try.func35, Try.ntmps35
    go_wp2_with fail
    refine (putuint_rg (w.heap.size + 1) 0 [] 1 f (.slice none 0 0) _ (World.ownsRow_nil _ _ _ _) (by simp) (by omega) (by omega)).mono ?_
    rintro e w1 ⟨v1, rfl, o1, b1, _⟩
    have h21 := putU_len 1 f
    generalize hm1 : 0 + (putU 1 f).length = m1 at *
    have hmm1 : m1 ≤ 30 := by first | omega | (simp at h21; omega) | (have hmag : magicB.length = 3 := rfl; omega)
    have B1 := b1
    have bxw1 := (B1.block w.heap.size (by omega)).trans (heap_alloc_new w (.cells #[.int .i64 (f : Int), .int .i64 4, .int .i64 (k : Int), .int .i64 (m : Int)] 64))
    have hs1 := B1.size
    simp at hs1
    clear b1 hm1 h21
    have d1 : w1.cell? ⟨w.heap.size, 1, none⟩ = some (.int .i64 4) := by rw [cell_of_row _ _ _ _ _ _ bxw1]; rfl
    have d2 : w1.cell? ⟨w.heap.size, 2, none⟩ = some (.int .i64 (k : Int)) := by rw [cell_of_row _ _ _ _ _ _ bxw1]; rfl
    have d3 : w1.cell? ⟨w.heap.size, 3, none⟩ = some (.int .i64 (m : Int)) := by rw [cell_of_row _ _ _ _ _ _ bxw1]; rfl
    generalize hL1 : [] ++ putU 1 f = L1 at *
    have HL1 := Lib.hid hL1
    clear hL1
    go_wp2_with fail
    refine (putuint_rg (w.heap.size + 1) m1 L1 2 4 v1 _ o1 (by omega) (by omega) (by omega)).mono ?_
    rintro e w2 ⟨v2, rfl, o2, b2, _⟩
    have h22 := putU_len 2 4
    generalize hm2 : m1 + (putU 2 4).length = m2 at *
    have hmm2 : m2 ≤ 60 := by first | omega | (simp at h22; omega) | (have hmag : magicB.length = 3 := rfl; omega)
    have B2 := B1.trans b2
    have bxw2 := (B2.block w.heap.size (by omega)).trans (heap_alloc_new w (.cells #[.int .i64 (f : Int), .int .i64 4, .int .i64 (k : Int), .int .i64 (m : Int)] 64))
    have hs2 := B2.size
    simp at hs2
    clear b2 o1 bxw1 d1 d2 d3 hm2 h22 hs1
    have d1 : w2.cell? ⟨w.heap.size, 1, none⟩ = some (.int .i64 4) := by rw [cell_of_row _ _ _ _ _ _ bxw2]; rfl
    have d2 : w2.cell? ⟨w.heap.size, 2, none⟩ = some (.int .i64 (k : Int)) := by rw [cell_of_row _ _ _ _ _ _ bxw2]; rfl
    have d3 : w2.cell? ⟨w.heap.size, 3, none⟩ = some (.int .i64 (m : Int)) := by rw [cell_of_row _ _ _ _ _ _ bxw2]; rfl
    generalize hL2 : L1 ++ putU 2 4 = L2 at *
    have HL2 := Lib.hid hL2
    clear hL2
    go_wp2_with fail
    refine (putuint_rg (w.heap.size + 1) m2 L2 3 k v2 _ o2 (by omega) (by omega) (by omega)).mono ?_
    rintro e w3 ⟨v3, rfl, o3, b3, _⟩
    have h23 := putU_len 3 k
    generalize hm3 : m2 + (putU 3 k).length = m3 at *
    have hmm3 : m3 ≤ 90 := by first | omega | (simp at h23; omega) | (have hmag : magicB.length = 3 := rfl; omega)
    have B3 := B2.trans b3
    have bxw3 := (B3.block w.heap.size (by omega)).trans (heap_alloc_new w (.cells #[.int .i64 (f : Int), .int .i64 4, .int .i64 (k : Int), .int .i64 (m : Int)] 64))
    have hs3 := B3.size
    simp at hs3
    clear b3 o2 bxw2 d1 d2 d3 hm3 h23 hs2
    have d1 : w3.cell? ⟨w.heap.size, 1, none⟩ = some (.int .i64 4) := by rw [cell_of_row _ _ _ _ _ _ bxw3]; rfl
    have d2 : w3.cell? ⟨w.heap.size, 2, none⟩ = some (.int .i64 (k : Int)) := by rw [cell_of_row _ _ _ _ _ _ bxw3]; rfl
    have d3 : w3.cell? ⟨w.heap.size, 3, none⟩ = some (.int .i64 (m : Int)) := by rw [cell_of_row _ _ _ _ _ _ bxw3]; rfl
    generalize hL3 : L2 ++ putU 3 k = L3 at *
    have HL3 := Lib.hid hL3
    clear hL3
    go_wp2_with fail
    have oo4 := o3.alloc (.cells #[.int .u8 0, .int .u8 12] 5 (0, 0))
    refine (putbytes_rh (w.heap.size + 1) m3 L3 4 v3 (some ⟨w3.heap.size, 0, none⟩) 2 2 [0, 12] _ oo4 (by simp; omega) (Sl.litw w3 [.int .u8 0, .int .u8 12] 2 _ (0, 0) rfl (by decide) (by decide)) (fun w' v' _ hG => hG.low (Sl.litw w3 [.int .u8 0, .int .u8 12] 2 _ (0, 0) rfl (by decide) (by decide)) (fun ad had e => by injection had with had; subst had; have := (o3.lt _ e.symm).2; simp at this)) (by omega) (by omega)).mono ?_
    rintro e w4 ⟨v4, rfl, o4, b4, _⟩
    have h24 := putT_len 4 [0, 12]
    generalize hm4 : m3 + (putT 4 [0, 12]).length = m4 at *
    have hmm4 : m4 ≤ 120 := by first | omega | (simp at h24; omega) | (have hmag : magicB.length = 3 := rfl; omega)
    have B4 := (B3.alloc (by have := B3.size; simp at this; omega) (.cells #[.int .u8 0, .int .u8 12] 5 (0, 0))).trans b4
    have bxw4 := (B4.block w.heap.size (by omega)).trans (heap_alloc_new w (.cells #[.int .i64 (f : Int), .int .i64 4, .int .i64 (k : Int), .int .i64 (m : Int)] 64))
    have hs4 := B4.size
    simp at hs4
    clear b4 o3 bxw3 d1 d2 d3 hm4 h24 hs3 oo4
    have d1 : w4.cell? ⟨w.heap.size, 1, none⟩ = some (.int .i64 4) := by rw [cell_of_row _ _ _ _ _ _ bxw4]; rfl
    have d2 : w4.cell? ⟨w.heap.size, 2, none⟩ = some (.int .i64 (k : Int)) := by rw [cell_of_row _ _ _ _ _ _ bxw4]; rfl
    have d3 : w4.cell? ⟨w.heap.size, 3, none⟩ = some (.int .i64 (m : Int)) := by rw [cell_of_row _ _ _ _ _ _ bxw4]; rfl
    generalize hL4 : L3 ++ putT 4 [0, 12] = L4 at *
    have HL4 := Lib.hid hL4
    clear hL4
    go_wp2_with fail
    refine (putuint_rg (w.heap.size + 1) m4 L4 5 m v4 _ o4 (by omega) (by omega) (by omega)).mono ?_
    rintro e w5 ⟨v5, rfl, o5, b5, _⟩
    have h25 := putU_len 5 m
    generalize hm5 : m4 + (putU 5 m).length = m5 at *
    have hmm5 : m5 ≤ 150 := by first | omega | (simp at h25; omega) | (have hmag : magicB.length = 3 := rfl; omega)
    have B5 := B4.trans b5
    have bxw5 := (B5.block w.heap.size (by omega)).trans (heap_alloc_new w (.cells #[.int .i64 (f : Int), .int .i64 4, .int .i64 (k : Int), .int .i64 (m : Int)] 64))
    have hs5 := B5.size
    simp at hs5
    clear b5 o4 bxw4 d1 d2 d3 hm5 h25 hs4
    have d1 : w5.cell? ⟨w.heap.size, 1, none⟩ = some (.int .i64 4) := by rw [cell_of_row _ _ _ _ _ _ bxw5]; rfl
    have d2 : w5.cell? ⟨w.heap.size, 2, none⟩ = some (.int .i64 (k : Int)) := by rw [cell_of_row _ _ _ _ _ _ bxw5]; rfl
    have d3 : w5.cell? ⟨w.heap.size, 3, none⟩ = some (.int .i64 (m : Int)) := by rw [cell_of_row _ _ _ _ _ _ bxw5]; rfl
    generalize hL5 : L4 ++ putU 5 m = L5 at *
    have HL5 := Lib.hid hL5
    clear hL5
    go_wp2_with fail
    refine (putuint_rg (w.heap.size + 1) m5 L5 6 1 v5 _ o5 (by omega) (by omega) (by omega)).mono ?_
    rintro e w6 ⟨v6, rfl, o6, b6, _⟩
    have h26 := putU_len 6 1
    generalize hm6 : m5 + (putU 6 1).length = m6 at *
    have hmm6 : m6 ≤ 180 := by first | omega | (simp at h26; omega) | (have hmag : magicB.length = 3 := rfl; omega)
    have B6 := B5.trans b6
    have bxw6 := (B6.block w.heap.size (by omega)).trans (heap_alloc_new w (.cells #[.int .i64 (f : Int), .int .i64 4, .int .i64 (k : Int), .int .i64 (m : Int)] 64))
    have hs6 := B6.size
    simp at hs6
    clear b6 o5 bxw5 d1 d2 d3 hm6 h26 hs5
    have d1 : w6.cell? ⟨w.heap.size, 1, none⟩ = some (.int .i64 4) := by rw [cell_of_row _ _ _ _ _ _ bxw6]; rfl
    have d2 : w6.cell? ⟨w.heap.size, 2, none⟩ = some (.int .i64 (k : Int)) := by rw [cell_of_row _ _ _ _ _ _ bxw6]; rfl
    have d3 : w6.cell? ⟨w.heap.size, 3, none⟩ = some (.int .i64 (m : Int)) := by rw [cell_of_row _ _ _ _ _ _ bxw6]; rfl
    generalize hL6 : L5 ++ putU 6 1 = L6 at *
    have HL6 := Lib.hid hL6
    clear hL6
    go_wp2_with fail
    have oo7 := o6.alloc (.cells #[.int .u8 79, .int .u8 82, .int .u8 67] 5 (3, 4))
    refine (putbytes_rh (w.heap.size + 1) m6 L6 8000 v6 (some ⟨w6.heap.size, 0, none⟩) 3 3 magicB _ oo7 (by simp; omega) (Sl.litw w6 [.int .u8 79, .int .u8 82, .int .u8 67] 3 _ (3, 4) rfl (by decide) (by decide)) (fun w' v' _ hG => hG.low (Sl.litw w6 [.int .u8 79, .int .u8 82, .int .u8 67] 3 _ (3, 4) rfl (by decide) (by decide)) (fun ad had e => by injection had with had; subst had; have := (o6.lt _ e.symm).2; simp at this)) (by omega) (by omega)).mono ?_
    rintro e w7 ⟨v7, rfl, o7, b7, _⟩
    have h27 := putT_len 8000 magicB
    generalize hm7 : m6 + (putT 8000 magicB).length = m7 at *
    have hmm7 : m7 ≤ 210 := by first | omega | (simp at h27; omega) | (have hmag : magicB.length = 3 := rfl; omega)
    have B7 := (B6.alloc (by have := B6.size; simp at this; omega) (.cells #[.int .u8 79, .int .u8 82, .int .u8 67] 5 (3, 4))).trans b7
    have bxw7 := (B7.block w.heap.size (by omega)).trans (heap_alloc_new w (.cells #[.int .i64 (f : Int), .int .i64 4, .int .i64 (k : Int), .int .i64 (m : Int)] 64))
    have hs7 := B7.size
    simp at hs7
    clear b7 o6 bxw6 d1 d2 d3 hm7 h27 hs6 oo7
    have d1 : w7.cell? ⟨w.heap.size, 1, none⟩ = some (.int .i64 4) := by rw [cell_of_row _ _ _ _ _ _ bxw7]; rfl
    have d2 : w7.cell? ⟨w.heap.size, 2, none⟩ = some (.int .i64 (k : Int)) := by rw [cell_of_row _ _ _ _ _ _ bxw7]; rfl
    have d3 : w7.cell? ⟨w.heap.size, 3, none⟩ = some (.int .i64 (m : Int)) := by rw [cell_of_row _ _ _ _ _ _ bxw7]; rfl
    generalize hL7 : L6 ++ putT 8000 magicB = L7 at *
    have HL7 := Lib.hid hL7
    clear hL7
    have HB7 := Lib.hid B7
    clear d1 d2 d3 bxw7 B1 B2 B3 B4 B5 B6 B7
    obtain ⟨A7, c7, rfl, s7⟩ := Sl.of_own o7 (nats_one _ _)
    clear o7
    have HS7 := Lib.hid s7
    clear s7
    go_wp2_with fail
    go_ret2
    refine ⟨A7, m7, c7, rfl, ?_, ((Below.refl _ _).alloc (Nat.le_refl _) _).trans (HB7.out.mono (by simp))⟩
    have hs := HS7.out
    rw [← HL7.out, ← HL6.out, ← HL5.out, ← HL4.out, ← HL3.out, ← HL2.out, ← HL1.out] at hs
    rw [show putsB (encP f 4 k m) = _ from enc_bytes f 4 k m]
    exact hs

set_option maxHeartbeats 1600000 in
theorem rencode_7 (f c k m : Int) (w : World) (h0 : (c != 0) = true) (h4 : (c != 4) = true) :
    Calls Try.prog 35 #[.agg #[.int .i64 f, .int .i64 c, .int .i64 k, .int .i64 m]] w fun e w' => EncOut w ([], 7) e w' := by

  go_enter Try.func35, Try.ntmps35
  go_wp2_with fail
  go_ret2
  exact EncOut.bad (below_new _ _)

set_option maxHeartbeats 1600000 in
theorem rencode_f1_0 (f k m : Int) (w : World) (h : f < 0) :
    Calls Try.prog 35 #[.agg #[.int .i64 f, .int .i64 0, .int .i64 k, .int .i64 m]] w fun e w' => EncOut w ([], 1) e w' := by

  go_enter Try.func35, Try.ntmps35
  go_wp2_with fail
  go_ret2
  exact EncOut.bad (below_new _ _)

set_option maxHeartbeats 1600000 in
theorem rencode_f2_0 (f k m : Int) (w : World) (h0 : 0 ≤ f) (h : 65536 < f) :
    Calls Try.prog 35 #[.agg #[.int .i64 f, .int .i64 0, .int .i64 k, .int .i64 m]] w fun e w' => EncOut w ([], 1) e w' := by

  go_enter Try.func35, Try.ntmps35
  go_wp2_with fail
  go_ret2
  exact EncOut.bad (below_new _ _)

set_option maxHeartbeats 1600000 in
theorem rencode_m1_0 (f k m : Int) (w : World) (h0 : 0 ≤ f) (h1 : f ≤ 65536) (h : m < 0) :
    Calls Try.prog 35 #[.agg #[.int .i64 f, .int .i64 0, .int .i64 k, .int .i64 m]] w fun e w' => EncOut w ([], 1) e w' := by

  go_enter Try.func35, Try.ntmps35
  go_wp2_with fail
  go_ret2
  exact EncOut.bad (below_new _ _)

set_option maxHeartbeats 1600000 in
theorem rencode_m2_0 (f k m : Int) (w : World) (h0 : 0 ≤ f) (h1 : f ≤ 65536) (h2 : 0 ≤ m) (h : 65536 < m) :
    Calls Try.prog 35 #[.agg #[.int .i64 f, .int .i64 0, .int .i64 k, .int .i64 m]] w fun e w' => EncOut w ([], 1) e w' := by

  go_enter Try.func35, Try.ntmps35
  go_wp2_with fail
  go_ret2
  exact EncOut.bad (below_new _ _)

set_option maxHeartbeats 1600000 in
theorem rencode_f1_4 (f k m : Int) (w : World) (h : f < 0) :
    Calls Try.prog 35 #[.agg #[.int .i64 f, .int .i64 4, .int .i64 k, .int .i64 m]] w fun e w' => EncOut w ([], 1) e w' := by

  go_enter Try.func35, Try.ntmps35
  go_wp2_with fail
  go_ret2
  exact EncOut.bad (below_new _ _)

set_option maxHeartbeats 1600000 in
theorem rencode_f2_4 (f k m : Int) (w : World) (h0 : 0 ≤ f) (h : 65536 < f) :
    Calls Try.prog 35 #[.agg #[.int .i64 f, .int .i64 4, .int .i64 k, .int .i64 m]] w fun e w' => EncOut w ([], 1) e w' := by

  go_enter Try.func35, Try.ntmps35
  go_wp2_with fail
  go_ret2
  exact EncOut.bad (below_new _ _)

set_option maxHeartbeats 1600000 in
theorem rencode_m1_4 (f k m : Int) (w : World) (h0 : 0 ≤ f) (h1 : f ≤ 65536) (h : m < 0) :
    Calls Try.prog 35 #[.agg #[.int .i64 f, .int .i64 4, .int .i64 k, .int .i64 m]] w fun e w' => EncOut w ([], 1) e w' := by

  go_enter Try.func35, Try.ntmps35
  go_wp2_with fail
  go_ret2
  exact EncOut.bad (below_new _ _)

set_option maxHeartbeats 1600000 in
theorem rencode_m2_4 (f k m : Int) (w : World) (h0 : 0 ≤ f) (h1 : f ≤ 65536) (h2 : 0 ≤ m) (h : 65536 < m) :
    Calls Try.prog 35 #[.agg #[.int .i64 f, .int .i64 4, .int .i64 k, .int .i64 m]] w fun e w' => EncOut w ([], 1) e w' := by

  go_enter Try.func35, Try.ntmps35
  go_wp2_with fail
  go_ret2
  exact EncOut.bad (below_new _ _)

set_option maxHeartbeats 1600000 in
theorem rencode_k0 (f k m : Int) (w : World) (h0 : 0 ≤ f) (h1 : f ≤ 65536) (h2 : 0 ≤ m) (h3 : m ≤ 65536) (h : (k != 0) = true) :
    Calls Try.prog 35 #[.agg #[.int .i64 f, .int .i64 0, .int .i64 k, .int .i64 m]] w fun e w' => EncOut w ([], 1) e w' := by

  go_enter Try.func35, Try.ntmps35
  go_wp2_with fail
  go_ret2
  exact EncOut.bad (below_new _ _)

set_option maxHeartbeats 1600000 in
theorem rencode_k4a (f k m : Int) (w : World) (h0 : 0 ≤ f) (h1 : f ≤ 65536) (h2 : 0 ≤ m) (h3 : m ≤ 65536) (h : k < 64) :
    Calls Try.prog 35 #[.agg #[.int .i64 f, .int .i64 4, .int .i64 k, .int .i64 m]] w fun e w' => EncOut w ([], 1) e w' := by

  go_enter Try.func35, Try.ntmps35
  go_wp2_with fail
  go_ret2
  exact EncOut.bad (below_new _ _)

set_option maxHeartbeats 1600000 in
theorem rencode_k4b (f k m : Int) (w : World) (h0 : 0 ≤ f) (h1 : f ≤ 65536) (h2 : 0 ≤ m) (h3 : m ≤ 65536) (h4 : 64 ≤ k) (h : 65536 < k) :
    Calls Try.prog 35 #[.agg #[.int .i64 f, .int .i64 4, .int .i64 k, .int .i64 m]] w fun e w' => EncOut w ([], 1) e w' := by

  go_enter Try.func35, Try.ntmps35
  go_wp2_with fail
  go_ret2
  exact EncOut.bad (below_new _ _)

theorem rencode_p (f c k m : Int) (w : World) :
    Calls Try.prog 35 #[.agg #[.int .i64 f, .int .i64 c, .int .i64 k, .int .i64 m]] w fun e w' => EncOut w (encS f c k m) e w' := by
  unfold encS
  by_cases h : c ≠ 0 ∧ c ≠ 4
  · rw [if_pos h]
    exact rencode_7 f c k m w (by simpa using h.1) (by simpa using h.2)
  · rw [if_neg h]
    have hc' : c = 0 ∨ c = 4 := by omega
    by_cases hok : encOk f c k m
    · rw [if_neg (by simpa using hok)]
      obtain ⟨h1, h2, h3, h4⟩ := hok
      have hk : 0 ≤ k := by
        rcases hc' with e | e
        · have := h4 e; omega
        · have := h3 e; omega
      obtain ⟨c', rfl⟩ : ∃ n : Nat, c = n := ⟨c.toNat, by omega⟩
      obtain ⟨f', rfl⟩ : ∃ n : Nat, f = n := ⟨f.toNat, by omega⟩
      obtain ⟨k', rfl⟩ : ∃ n : Nat, k = n := ⟨k.toNat, by omega⟩
      obtain ⟨m', rfl⟩ : ∃ n : Nat, m = n := ⟨m.toNat, by omega⟩
      exact rencode_good f' c' k' m' w (by omega) (by omega) (by omega) (fun e => by have := h3 (by omega); omega) (fun e => by have := h4 (by omega); omega)
    · rw [if_pos hok]
      by_cases f1 : f < 0
      · rcases hc' with rfl | rfl
        · exact rencode_f1_0 f k m w f1
        · exact rencode_f1_4 f k m w f1
      · by_cases f2 : 65536 < f
        · rcases hc' with rfl | rfl
          · exact rencode_f2_0 f k m w (by omega) f2
          · exact rencode_f2_4 f k m w (by omega) f2
        · by_cases m1 : m < 0
          · rcases hc' with rfl | rfl
            · exact rencode_m1_0 f k m w (by omega) (by omega) m1
            · exact rencode_m1_4 f k m w (by omega) (by omega) m1
          · by_cases m2 : 65536 < m
            · rcases hc' with rfl | rfl
              · exact rencode_m2_0 f k m w (by omega) (by omega) (by omega) m2
              · exact rencode_m2_4 f k m w (by omega) (by omega) (by omega) m2
            · rcases hc' with rfl | rfl
              · refine rencode_k0 f k m w (by omega) (by omega) (by omega) (by omega) ?_
                have : k ≠ 0 := fun e => hok ⟨⟨by omega, by omega⟩, ⟨by omega, by omega⟩, (fun h => by omega), (fun _ => e)⟩
                simpa using this
              · by_cases k1 : k < 64
                · exact rencode_k4a f k m w (by omega) (by omega) (by omega) (by omega) k1
                · by_cases k2 : 65536 < k
                  · exact rencode_k4b f k m w (by omega) (by omega) (by omega) (by omega) (by omega) k2
                  · exact absurd ⟨⟨by omega, by omega⟩, ⟨by omega, by omega⟩, (fun _ => ⟨by omega, by omega⟩), (fun h => by omega)⟩ hok
end Go.Proofs.Ytihclbiohljmlaa
