/- PostBytes: the walk. -/
import Derived.Test.YtihclbiohljmlaaPostLawM
namespace Go.Proofs.Ytihclbiohljmlaa
open Go.RowKit
set_option linter.unusedVariables false

set_option maxHeartbeats 3200000 in
set_option maxRecDepth 100000 in
theorem law_PostBytes (A : Option Addr) (n c : Nat) (bs : List Nat) (w : World) (hb : Sl w A n c (nats .u8 bs)) (hbs : ∀ x ∈ bs, x < 256) :
    Calls Try.prog 6 #[.slice A n c] w fun e w' => e = .returned (.bool true) ∧ Below w.heap.size w w' := by
  have hle := hb.le
  have hmax := hb.max
  unfold maxLen at hmax
  by_cases hn : n ≤ 1000
  · have h1 := fun w h => decode_p A n c bs w h hbs (by omega)
    have h2 := fun w h => rdecode_p A n c bs w h hbs (by omega)
    have h3 := fun w h => find_p A n c bs w h hbs (by omega)
    have h4 := fun w h => rfind_p A n c bs w h hbs (by omega)
    generalize decS bs = D at h1 h2
    generalize findS bs = F at h3 h4
    obtain ⟨⟨df, dc, dk, dm⟩, de⟩ := D
    obtain ⟨fb, fa, fe⟩ := F
    have H1 := Lib.hid h1
    have H2 := Lib.hid h2
    have H3 := Lib.hid h3
    have H4 := Lib.hid h4
    have Hb := Lib.hid hb
    clear h1 h2 h3 h4 hb hbs
    go_enter Try.func6, Try.ntmps6
    go_wp2_with fail
    refine (known20 w).mono ?_
    rintro e w1 ⟨rfl, b1⟩
    have B1 := Lib.hid b1
    clear b1
    go_wp2_with fail
    refine (H1.out w1 (Hb.out.keep B1.out)).mono ?_
    rintro e w2 ⟨rfl, b2⟩
    unfold postV
    dsimp only
    have B2 := Lib.hid (B1.out.trans (b2.mono B1.out.size))
    clear b2
    have BB2 : Hid (∀ o, Below w.heap.size w (w2.alloc o)) := Lib.hid fun o => B2.out.alloc B2.out.size o
    go_wp2_with fail
    refine (H2.out _ (Hb.out.keep (BB2.out _))).mono ?_
    rintro e w3 ⟨rfl, b3⟩
    unfold postV
    dsimp only
    have bx3 : w3.heap[w2.heap.size]? = some (.cells #[.int .i64 (df : Int), .int .i64 (dc : Int), .int .i64 (dk : Int), .int .i64 (dm : Int)] 61 (0, 0)) := (b3.block _ (by simp)).trans (heap_alloc_new w2 _)
    have Bx3 := Lib.hid bx3
    have hsz3 := b3.size
    simp at hsz3
    have B3 := Lib.hid ((BB2.out _).trans (b3.mono (BB2.out _).size))
    clear b3 bx3
    have BB3 : Hid (∀ o, Below w.heap.size w (w3.alloc o)) := Lib.hid fun o => B3.out.alloc B3.out.size o
    go_wp2_with fail
    refine (H3.out _ (Hb.out.keep (BB3.out _))).mono ?_
    rintro e w4 ⟨X1, cX1, m1, rfl, s4, b4⟩
    dsimp only at s4 ⊢
    have Bx4 : Hid (w4.heap[w2.heap.size]? = some (.cells #[.int .i64 (df : Int), .int .i64 (dc : Int), .int .i64 (dk : Int), .int .i64 (dm : Int)] 61 (0, 0))) := Lib.hid ((b4.block _ (by simp; omega)).trans (((below_new w3 _).block _ (by omega)).trans Bx3.out))
    have By4 : Hid (w4.heap[w3.heap.size]? = some (.cells #[.int .i64 (df : Int), .int .i64 (dc : Int), .int .i64 (dk : Int), .int .i64 (dm : Int)] 64 (0, 0))) := Lib.hid ((b4.block _ (by simp)).trans (heap_alloc_new w3 _))
    have hsz4 := b4.size
    simp at hsz4
    have B4 := Lib.hid ((BB3.out _).trans (b4.mono (BB3.out _).size))
    have S4 := Lib.hid s4
    clear b4 s4
    go_wp2_with fail
    refine (H4.out _ (Hb.out.keep B4.out)).mono ?_
    rintro e w5 ⟨Y1, cY1, m2, rfl, s5, b5⟩
    dsimp only at s5 ⊢
    have bx5 := (b5.block w2.heap.size (by omega)).trans Bx4.out
    have by5 := (b5.block w3.heap.size (by omega)).trans By4.out
    have B5 := Lib.hid (B4.out.trans (b5.mono B4.out.size))
    have s4 := S4.out.keep b5
    obtain rfl : m1 = m2 := by have h1 := s4.len; have h2 := s5.len; omega
    have q1 := run_convert_sl (P := Try.prog) Try.underlying22 Try.underlying5 Try.underlying9 s4
    have q2 := run_convert_sl (P := Try.prog) Try.underlying22 Try.underlying5 Try.underlying9 s5
    generalize strOf fb = str at *
    have d0 : w5.cell? ⟨w2.heap.size, 0, none⟩ = some (.int .i64 (df : Int)) := by rw [cell_of_row _ _ _ _ _ _ bx5]; rfl
    have d1 : w5.cell? ⟨w2.heap.size, 1, none⟩ = some (.int .i64 (dc : Int)) := by rw [cell_of_row _ _ _ _ _ _ bx5]; rfl
    have d2 : w5.cell? ⟨w2.heap.size, 2, none⟩ = some (.int .i64 (dk : Int)) := by rw [cell_of_row _ _ _ _ _ _ bx5]; rfl
    have d3 : w5.cell? ⟨w2.heap.size, 3, none⟩ = some (.int .i64 (dm : Int)) := by rw [cell_of_row _ _ _ _ _ _ bx5]; rfl
    have By5 := Lib.hid by5
    clear s4 s5 b5 bx5 by5
    go_wp2_with (refine wpList_load_row rfl 64 (.tmp 5) rfl w3.heap.size rfl 64 _ (0, 0) _ By5.out Try.underlying64 rfl (by kernel_rfl) ?_)
    go_ret
    exact ⟨rfl, B5.out⟩
  · have hn2 : 1000 < n := by omega
    clear hn hb hbs
    go_enter Try.func6, Try.ntmps6
    go_wp2_with fail
    refine (known20 w).mono ?_
    rintro e w1 ⟨rfl, hb1⟩
    go_wp2_with fail
    go_ret
    exact ⟨rfl, hb1⟩
end Go.Proofs.Ytihclbiohljmlaa
