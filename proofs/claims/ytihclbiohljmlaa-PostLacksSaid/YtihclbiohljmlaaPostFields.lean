/- PostFields: the walk. (Printed by gen/postlaws.py.) -/
import Derived.Test.YtihclbiohljmlaaPostLawM
namespace Go.Proofs.Ytihclbiohljmlaa
open Go.RowKit
set_option linter.unusedVariables false

theorem putU_eq (n v : Nat) (h : 1 ≤ n ∧ n ≤ 536870911) : putU (n : Int) v = (PutV.num n v).bytes := by
  unfold putU
  rw [if_pos (show mayF (n : Int) from ⟨by omega, by omega⟩)]
  rfl
theorem putT_eq (n : Nat) (l : List Nat) (h : 1 ≤ n ∧ n ≤ 536870911) : putT (n : Int) l = (PutV.txt n l).bytes := by
  unfold putT
  rw [if_pos (show mayF (n : Int) from ⟨by omega, by omega⟩)]
  rfl
theorem field_bytes (again : Bool) (footer chunk num v : Nat) (hn : 1 ≤ num ∧ num ≤ 268435456) : putsB (fieldP again footer chunk num v) = ((((([] ++ putT 8000 magicB) ++ (if again = true then putU 1 7 ++ putU 3 5 else [])) ++ putU num v) ++ putU 3 chunk) ++ putU 2 4) ++ putU 1 footer := by
  have e0 : putT 8000 magicB = (PutV.txt 8000 magicB).bytes := putT_eq 8000 magicB (by decide)
  have e1 : putU 1 7 = (PutV.num 1 7).bytes := putU_eq 1 7 (by decide)
  have e2 : putU 3 5 = (PutV.num 3 5).bytes := putU_eq 3 5 (by decide)
  have e3 : putU (num : Int) v = (PutV.num num v).bytes := putU_eq num v (by omega)
  have e4 : putU 3 chunk = (PutV.num 3 chunk).bytes := putU_eq 3 chunk (by decide)
  have e5 : putU 2 4 = (PutV.num 2 4).bytes := putU_eq 2 4 (by decide)
  have e6 : putU 1 footer = (PutV.num 1 footer).bytes := putU_eq 1 footer (by decide)
  rw [e0, e1, e2, e3, e4, e5, e6]
  unfold fieldP
  cases again <;> simp [putsB]

set_option maxHeartbeats 6400000 in
set_option maxRecDepth 100000 in
theorem field_main (footer chunk num v : Nat) (again : Bool) (w : World) (hn : 1 ≤ num ∧ num ≤ 268435456) (g1 : num ≠ 1) (g2 : num ≠ 2) (g3 : num ≠ 3) (g5 : num ≠ 5) (g8 : num ≠ 8000) (hv2 : v < 18446744073709551616) (hf : footer ≤ 65535) (hc : chunk ≤ 65535) (hc2 : 64 ≤ chunk) :
    Calls Try.prog 8 #[.int .u16 (footer : Int), .int .u16 (chunk : Int), .int .i64 (num : Int), .int .u64 (v : Int), .bool again] w fun e w' => e = .returned (.bool true) ∧ Below w.heap.size w w' := by
  have kc := fun (w : World) (C : Array Value) (n c : Nat) => Lib.run_convert_bytes_const (P := Try.prog) w 22 5 C n c Try.underlying22 Try.underlying5
  have f1 : ((num : Int) == 1) = false := beq_eq_false_iff_ne.2 (by omega)
  have f2 : ((num : Int) == 2) = false := beq_eq_false_iff_ne.2 (by omega)
  have f3 : ((num : Int) == 3) = false := beq_eq_false_iff_ne.2 (by omega)
  have f5 : ((num : Int) == 5) = false := beq_eq_false_iff_ne.2 (by omega)
  have f8 : ((num : Int) == 8000) = false := beq_eq_false_iff_ne.2 (by omega)
  have k1 : (num == 1) = false := beq_eq_false_iff_ne.2 (by omega)
  have k2 : (num == 2) = false := beq_eq_false_iff_ne.2 (by omega)
  have k3 : (num == 3) = false := beq_eq_false_iff_ne.2 (by omega)
  have k5 : (num == 5) = false := beq_eq_false_iff_ne.2 (by omega)
  have k8 : (num == 8000) = false := beq_eq_false_iff_ne.2 (by omega)
  have hb1 : 1 ≤ num := hn.1
  have hb2 : num ≤ 268435456 := hn.2
  cases again with
  | true =>
    go_enter Try.func8, Try.ntmps8
    go_wp2_with fail
    refine (known20 w).mono ?_
    rintro e w1 ⟨rfl, b0⟩
    have B0 := Lib.hid b0
    clear b0
    have s0 : Below (w1.heap.size + 1) (w1.alloc (.cells #[.int .u8 79, .int .u8 82, .int .u8 67] 5 (3, 4))) (w1.alloc (.cells #[.int .u8 79, .int .u8 82, .int .u8 67] 5 (3, 4))) := Below.refl _ _
    have sl0 : Sl (w1.alloc (.cells #[.int .u8 79, .int .u8 82, .int .u8 67] 5 (3, 4))) (some ⟨w1.heap.size, 0, none⟩) 3 3 (nats .u8 magicB) := Sl.litw w1 [.int .u8 79, .int .u8 82, .int .u8 67] 3 _ (3, 4) rfl (by decide) (by decide)
    have Sl0 := Lib.hid sl0
    clear sl0
    go_wp2_with fail
    refine (putbytes_rh (w1.heap.size + 1) 0 [] 8000 (.slice none 0 0) (some ⟨w1.heap.size, 0, none⟩) 3 3 magicB _ (World.ownsRow_nil _ _ _ _) (by simp) Sl0.out (fun w' v' hb _ => Sl0.out.keep (by rw [World.size_alloc]; exact hb)) (by omega) (by omega)).mono ?_
    rintro e w2 ⟨v1, rfl, o1, b1, _⟩
    have h21 := putT_len 8000 magicB
    generalize hm1 : 0 + (putT 8000 magicB).length = m1 at *
    have hmm1 : m1 ≤ 100 := by first | omega | (simp at h21; omega) | (have hmag : magicB.length = 3 := rfl; omega)
    have B1 := s0.trans b1
    have hs1 := B1.size
    simp at hs1
    generalize hL1 : [] ++ putT 8000 magicB = L1 at *
    have HL1 := Lib.hid hL1
    clear hL1 b1 hm1 h21
    go_wp2_with fail
    refine (putuint_rg (w1.heap.size + 1) m1 L1 1 7 v1 _ o1 (by omega) (by omega) (by omega)).mono ?_
    rintro e w3 ⟨v2, rfl, o2, b2, _⟩
    have h22 := putU_len 1 7
    generalize hm2 : m1 + (putU 1 7).length = m2 at *
    have hmm2 : m2 ≤ 200 := by first | omega | (simp at h22; omega) | (have hmag : magicB.length = 3 := rfl; omega)
    have B2 := B1.trans b2
    have hs2 := B2.size
    simp at hs2
    generalize hL2 : L1 ++ putU 1 7 = L2 at *
    have HL2 := Lib.hid hL2
    clear hL2 b2 hm2 h22 o1 B1 hs1
    go_wp2_with fail
    refine (putuint_rg (w1.heap.size + 1) m2 L2 3 5 v2 _ o2 (by omega) (by omega) (by omega)).mono ?_
    rintro e w4 ⟨v3, rfl, o3, b3, _⟩
    have h23 := putU_len 3 5
    generalize hm3 : m2 + (putU 3 5).length = m3 at *
    have hmm3 : m3 ≤ 300 := by first | omega | (simp at h23; omega) | (have hmag : magicB.length = 3 := rfl; omega)
    have B3 := B2.trans b3
    have hs3 := B3.size
    simp at hs3
    generalize hL3 : L2 ++ putU 3 5 = L3 at *
    have HL3 := Lib.hid hL3
    clear hL3 b3 hm3 h23 o2 B2 hs2
    go_wp2_with fail
    refine (putuint_rg (w1.heap.size + 1) m3 L3 (num : Int) v v3 _ o3 (by omega) (by exact hv2) (by omega)).mono ?_
    rintro e w5 ⟨v4, rfl, o4, b4, _⟩
    have h24 := putU_len (num : Int) v
    generalize hm4 : m3 + (putU (num : Int) v).length = m4 at *
    have hmm4 : m4 ≤ 400 := by first | omega | (simp at h24; omega) | (have hmag : magicB.length = 3 := rfl; omega)
    have B4 := B3.trans b4
    have hs4 := B4.size
    simp at hs4
    generalize hL4 : L3 ++ putU (num : Int) v = L4 at *
    have HL4 := Lib.hid hL4
    clear hL4 b4 hm4 h24 o3 B3 hs3
    go_wp2_with fail
    refine (putuint_rg (w1.heap.size + 1) m4 L4 3 chunk v4 _ o4 (by omega) (by omega) (by omega)).mono ?_
    rintro e w6 ⟨v5, rfl, o5, b5, _⟩
    have h25 := putU_len 3 chunk
    generalize hm5 : m4 + (putU 3 chunk).length = m5 at *
    have hmm5 : m5 ≤ 500 := by first | omega | (simp at h25; omega) | (have hmag : magicB.length = 3 := rfl; omega)
    have B5 := B4.trans b5
    have hs5 := B5.size
    simp at hs5
    generalize hL5 : L4 ++ putU 3 chunk = L5 at *
    have HL5 := Lib.hid hL5
    clear hL5 b5 hm5 h25 o4 B4 hs4
    go_wp2_with fail
    refine (putuint_rg (w1.heap.size + 1) m5 L5 2 4 v5 _ o5 (by omega) (by omega) (by omega)).mono ?_
    rintro e w7 ⟨v6, rfl, o6, b6, _⟩
    have h26 := putU_len 2 4
    generalize hm6 : m5 + (putU 2 4).length = m6 at *
    have hmm6 : m6 ≤ 600 := by first | omega | (simp at h26; omega) | (have hmag : magicB.length = 3 := rfl; omega)
    have B6 := B5.trans b6
    have hs6 := B6.size
    simp at hs6
    generalize hL6 : L5 ++ putU 2 4 = L6 at *
    have HL6 := Lib.hid hL6
    clear hL6 b6 hm6 h26 o5 B5 hs5
    go_wp2_with fail
    refine (putuint_rg (w1.heap.size + 1) m6 L6 1 footer v6 _ o6 (by omega) (by omega) (by omega)).mono ?_
    rintro e w8 ⟨v7, rfl, o7, b7, _⟩
    have h27 := putU_len 1 footer
    generalize hm7 : m6 + (putU 1 footer).length = m7 at *
    have hmm7 : m7 ≤ 700 := by first | omega | (simp at h27; omega) | (have hmag : magicB.length = 3 := rfl; omega)
    have B7 := B6.trans b7
    have hs7 := B7.size
    simp at hs7
    generalize hL7 : L6 ++ putU 1 footer = L7 at *
    have HL7 := Lib.hid hL7
    clear hL7 b7 hm7 h27 o6 B6 hs6
    obtain ⟨AA, cA, rfl, sA⟩ := Sl.of_own o7 (nats_one _ _)
    have hbytes := field_bytes true footer chunk num v hn
    have e7 : L7 = putsB (fieldP true footer chunk num v) := by
      rw [hbytes, ← HL7.out, ← HL6.out, ← HL5.out, ← HL4.out, ← HL3.out, ← HL2.out, ← HL1.out]
      simp
    have hfac := field_facts true footer chunk num v hn hv2 hf hc
    have hby := putsB_byte _ fun p hp => (hfac.1 p hp).2.2
    rw [← e7] at hby
    have hd := decode_p AA m7 cA L7 w8 sA hby (by omega)
    rw [e7, field_dec true footer chunk num v hn (by omega) (by omega) (by omega) (by omega) (by omega) hv2 hf hc hc2] at hd
    have Hd := Lib.hid hd
    have Bn : Hid (Below w.heap.size w w8) := Lib.hid (B0.out.trans (((Below.refl _ _).alloc (Nat.le_refl _) _).trans (B7.mono (by omega)) |>.mono B0.out.size))
    clear hd sA hby hfac e7 hbytes o7 B7 kc s0
    go_wp2_with fail
    refine Hd.out.mono ?_
    rintro e wz ⟨rfl, bz⟩
    unfold postV
    dsimp only
    have Bz := Lib.hid (Bn.out.trans (bz.mono Bn.out.size))
    clear bz
    go_wp2_with fail
    go_ret
    exact ⟨by first | rfl | simp, Bz.out.alloc Bz.out.size _⟩
  | false =>
    go_enter Try.func8, Try.ntmps8
    go_wp2_with fail
    refine (known20 w).mono ?_
    rintro e w1 ⟨rfl, b0⟩
    have B0 := Lib.hid b0
    clear b0
    have s0 : Below (w1.heap.size + 1) (w1.alloc (.cells #[.int .u8 79, .int .u8 82, .int .u8 67] 5 (3, 4))) (w1.alloc (.cells #[.int .u8 79, .int .u8 82, .int .u8 67] 5 (3, 4))) := Below.refl _ _
    have sl0 : Sl (w1.alloc (.cells #[.int .u8 79, .int .u8 82, .int .u8 67] 5 (3, 4))) (some ⟨w1.heap.size, 0, none⟩) 3 3 (nats .u8 magicB) := Sl.litw w1 [.int .u8 79, .int .u8 82, .int .u8 67] 3 _ (3, 4) rfl (by decide) (by decide)
    have Sl0 := Lib.hid sl0
    clear sl0
    go_wp2_with fail
    refine (putbytes_rh (w1.heap.size + 1) 0 [] 8000 (.slice none 0 0) (some ⟨w1.heap.size, 0, none⟩) 3 3 magicB _ (World.ownsRow_nil _ _ _ _) (by simp) Sl0.out (fun w' v' hb _ => Sl0.out.keep (by rw [World.size_alloc]; exact hb)) (by omega) (by omega)).mono ?_
    rintro e w2 ⟨v1, rfl, o1, b1, _⟩
    have h21 := putT_len 8000 magicB
    generalize hm1 : 0 + (putT 8000 magicB).length = m1 at *
    have hmm1 : m1 ≤ 100 := by first | omega | (simp at h21; omega) | (have hmag : magicB.length = 3 := rfl; omega)
    have B1 := s0.trans b1
    have hs1 := B1.size
    simp at hs1
    generalize hL1 : [] ++ putT 8000 magicB = L1 at *
    have HL1 := Lib.hid hL1
    clear hL1 b1 hm1 h21
    go_wp2_with fail
    refine (putuint_rg (w1.heap.size + 1) m1 L1 (num : Int) v v1 _ o1 (by omega) (by exact hv2) (by omega)).mono ?_
    rintro e w3 ⟨v2, rfl, o2, b2, _⟩
    have h22 := putU_len (num : Int) v
    generalize hm2 : m1 + (putU (num : Int) v).length = m2 at *
    have hmm2 : m2 ≤ 200 := by first | omega | (simp at h22; omega) | (have hmag : magicB.length = 3 := rfl; omega)
    have B2 := B1.trans b2
    have hs2 := B2.size
    simp at hs2
    generalize hL2 : L1 ++ putU (num : Int) v = L2 at *
    have HL2 := Lib.hid hL2
    clear hL2 b2 hm2 h22 o1 B1 hs1
    go_wp2_with fail
    refine (putuint_rg (w1.heap.size + 1) m2 L2 3 chunk v2 _ o2 (by omega) (by omega) (by omega)).mono ?_
    rintro e w4 ⟨v3, rfl, o3, b3, _⟩
    have h23 := putU_len 3 chunk
    generalize hm3 : m2 + (putU 3 chunk).length = m3 at *
    have hmm3 : m3 ≤ 300 := by first | omega | (simp at h23; omega) | (have hmag : magicB.length = 3 := rfl; omega)
    have B3 := B2.trans b3
    have hs3 := B3.size
    simp at hs3
    generalize hL3 : L2 ++ putU 3 chunk = L3 at *
    have HL3 := Lib.hid hL3
    clear hL3 b3 hm3 h23 o2 B2 hs2
    go_wp2_with fail
    refine (putuint_rg (w1.heap.size + 1) m3 L3 2 4 v3 _ o3 (by omega) (by omega) (by omega)).mono ?_
    rintro e w5 ⟨v4, rfl, o4, b4, _⟩
    have h24 := putU_len 2 4
    generalize hm4 : m3 + (putU 2 4).length = m4 at *
    have hmm4 : m4 ≤ 400 := by first | omega | (simp at h24; omega) | (have hmag : magicB.length = 3 := rfl; omega)
    have B4 := B3.trans b4
    have hs4 := B4.size
    simp at hs4
    generalize hL4 : L3 ++ putU 2 4 = L4 at *
    have HL4 := Lib.hid hL4
    clear hL4 b4 hm4 h24 o3 B3 hs3
    go_wp2_with fail
    refine (putuint_rg (w1.heap.size + 1) m4 L4 1 footer v4 _ o4 (by omega) (by omega) (by omega)).mono ?_
    rintro e w6 ⟨v5, rfl, o5, b5, _⟩
    have h25 := putU_len 1 footer
    generalize hm5 : m4 + (putU 1 footer).length = m5 at *
    have hmm5 : m5 ≤ 500 := by first | omega | (simp at h25; omega) | (have hmag : magicB.length = 3 := rfl; omega)
    have B5 := B4.trans b5
    have hs5 := B5.size
    simp at hs5
    generalize hL5 : L4 ++ putU 1 footer = L5 at *
    have HL5 := Lib.hid hL5
    clear hL5 b5 hm5 h25 o4 B4 hs4
    obtain ⟨AA, cA, rfl, sA⟩ := Sl.of_own o5 (nats_one _ _)
    have hbytes := field_bytes false footer chunk num v hn
    have e5 : L5 = putsB (fieldP false footer chunk num v) := by
      rw [hbytes, ← HL5.out, ← HL4.out, ← HL3.out, ← HL2.out, ← HL1.out]
      simp
    have hfac := field_facts false footer chunk num v hn hv2 hf hc
    have hby := putsB_byte _ fun p hp => (hfac.1 p hp).2.2
    rw [← e5] at hby
    have hd := decode_p AA m5 cA L5 w6 sA hby (by omega)
    rw [e5, field_dec false footer chunk num v hn (by omega) (by omega) (by omega) (by omega) (by omega) hv2 hf hc hc2] at hd
    have Hd := Lib.hid hd
    have Bn : Hid (Below w.heap.size w w6) := Lib.hid (B0.out.trans (((Below.refl _ _).alloc (Nat.le_refl _) _).trans (B5.mono (by omega)) |>.mono B0.out.size))
    clear hd sA hby hfac e5 hbytes o5 B5 kc s0
    go_wp2_with fail
    refine Hd.out.mono ?_
    rintro e wz ⟨rfl, bz⟩
    unfold postV
    dsimp only
    have Bz := Lib.hid (Bn.out.trans (bz.mono Bn.out.size))
    clear bz
    go_wp2_with fail
    go_ret
    exact ⟨by first | rfl | simp, Bz.out.alloc Bz.out.size _⟩

set_option maxHeartbeats 3200000 in
set_option maxRecDepth 100000 in
theorem law_PostFields (a0 a1 num v : Int) (again : Bool) (w : World) (h0 : 0 ≤ a0 ∧ a0 ≤ 65535) (h1 : 0 ≤ a1 ∧ a1 ≤ 65535) (hn : -9223372036854775808 ≤ num ∧ num ≤ 9223372036854775807) (hv : 0 ≤ v ∧ v < ((18446744073709551616 : Nat) : Int)) :
    Calls Try.prog 8 #[.int .u16 a0, .int .u16 a1, .int .i64 num, .int .u64 v, .bool again] w fun e w' => e = .returned (.bool true) ∧ Below w.heap.size w w' := by
  obtain ⟨footer, rfl⟩ : ∃ n : Nat, a0 = n := ⟨a0.toNat, by omega⟩
  obtain ⟨chunk, rfl⟩ : ∃ n : Nat, a1 = n := ⟨a1.toNat, by omega⟩
  obtain ⟨v, rfl⟩ : ∃ n : Nat, v = n := ⟨v.toNat, by omega⟩
  have hv2 : v < 18446744073709551616 := by omega
  have hf : footer ≤ 65535 := by omega
  have hc : chunk ≤ 65535 := by omega
  clear h0 h1 hv
  obtain ⟨hn1, hn2⟩ := hn
  by_cases g1 : num = 1
  · subst g1
    go_enter Try.func8, Try.ntmps8
    go_wp2_with fail
    refine (known20 w).mono ?_
    rintro e w1 ⟨rfl, b1⟩
    go_wp2_with fail
    go_ret
    exact ⟨rfl, b1⟩
  have e1 : (num == 1) = false := beq_eq_false_iff_ne.2 g1
  by_cases g2 : num = 2
  · subst g2
    go_enter Try.func8, Try.ntmps8
    go_wp2_with fail
    refine (known20 w).mono ?_
    rintro e w1 ⟨rfl, b1⟩
    go_wp2_with fail
    go_ret
    exact ⟨rfl, b1⟩
  have e2 : (num == 2) = false := beq_eq_false_iff_ne.2 g2
  by_cases g3 : num = 3
  · subst g3
    go_enter Try.func8, Try.ntmps8
    go_wp2_with fail
    refine (known20 w).mono ?_
    rintro e w1 ⟨rfl, b1⟩
    go_wp2_with fail
    go_ret
    exact ⟨rfl, b1⟩
  have e3 : (num == 3) = false := beq_eq_false_iff_ne.2 g3
  by_cases g5 : num = 5
  · subst g5
    go_enter Try.func8, Try.ntmps8
    go_wp2_with fail
    refine (known20 w).mono ?_
    rintro e w1 ⟨rfl, b1⟩
    go_wp2_with fail
    go_ret
    exact ⟨rfl, b1⟩
  have e5 : (num == 5) = false := beq_eq_false_iff_ne.2 g5
  by_cases g8000 : num = 8000
  · subst g8000
    go_enter Try.func8, Try.ntmps8
    go_wp2_with fail
    refine (known20 w).mono ?_
    rintro e w1 ⟨rfl, b1⟩
    go_wp2_with fail
    go_ret
    exact ⟨rfl, b1⟩
  have e8000 : (num == 8000) = false := beq_eq_false_iff_ne.2 g8000
  by_cases g : num < 1
  · skip
    go_enter Try.func8, Try.ntmps8
    go_wp2_with fail
    refine (known20 w).mono ?_
    rintro e w1 ⟨rfl, b1⟩
    go_wp2_with fail
    go_ret
    exact ⟨rfl, b1⟩
  by_cases g' : 268435456 < num
  · skip
    go_enter Try.func8, Try.ntmps8
    go_wp2_with fail
    refine (known20 w).mono ?_
    rintro e w1 ⟨rfl, b1⟩
    go_wp2_with fail
    go_ret
    exact ⟨rfl, b1⟩
  obtain ⟨k, rfl⟩ : ∃ n : Nat, num = n := ⟨num.toNat, by omega⟩
  by_cases gc : chunk < 64
  · have k1 : (k == 1) = false := beq_eq_false_iff_ne.2 (by omega)
    have k2 : (k == 2) = false := beq_eq_false_iff_ne.2 (by omega)
    have k3 : (k == 3) = false := beq_eq_false_iff_ne.2 (by omega)
    have k5 : (k == 5) = false := beq_eq_false_iff_ne.2 (by omega)
    have k8 : (k == 8000) = false := beq_eq_false_iff_ne.2 (by omega)
    go_enter Try.func8, Try.ntmps8
    go_wp2_with fail
    refine (known20 w).mono ?_
    rintro e w1 ⟨rfl, b1⟩
    go_wp2_with fail
    go_ret
    exact ⟨rfl, b1⟩
  exact field_main footer chunk k v again w ⟨by omega, by omega⟩ (by omega) (by omega) (by omega) (by omega) (by omega) hv2 hf hc (by omega)
end Go.Proofs.Ytihclbiohljmlaa
