/- ingotlaw9.known answers true. -/
import Derived.Test.YtehcbgnoiogncaaRunDec
import Derived.Lib.SlBytesConst
namespace Go.Proofs.Ytehcbgnoiogncaa
open Go.RowKit
open PackMath
set_option linter.unusedVariables false

theorem ints_getD (k : IntKind) (l : List Int) (j : Nat) (h : j < l.length) : (ints k l).getD j undef = .int k (l.getD j 0) := by simp [ints, h]
def ka9 : List Nat := [10, 39, 16]
def kb9 : List Nat := [94, 3, 92, 161, 171, 30, 222, 173, 190, 239]
def kc9 : List Nat := [198, 9, 2, 2, 34, 66, 66, 70]
theorem kda9 : decT ka9 5 false = ([10000, 10000, 10000, 10000, 10000], 0) := by decide +kernel
theorem kdb9 : decT kb9 4 false = ([23713, 43806, 57005, 48879], 0) := by decide +kernel
theorem kdc9 : runS kc9 0 false = ([2, 3, 5, 7, 11, 13, 17, 19, 23, 29], 8, 0) := by decide +kernel

set_option maxHeartbeats 3200000 in
set_option maxRecDepth 100000 in
theorem known9 (w : World) : Calls Try.prog 11 #[] w fun e w' => e = .returned (.bool true) ∧ Below w.heap.size w w' := by
  go_enter Try.func11, Try.ntmps11
  go_wp2_with fail
  have h1 := decode_p _ 3 3 ka9 5 false _ (Sl.lit w (nats .u8 ka9) 3 5 rfl (by decide) (nats_one _ _)) (by decide) (by decide)
  rw [kda9] at h1
  refine h1.mono ?_
  clear h1
  rintro e w1 ⟨B1, c1, rfl, s1, b1⟩
  dsimp only [List.length_cons, List.length_nil] at s1 ⊢
  obtain ⟨x1, o1, rfl, hx1, hc1⟩ := s1.at_ (by decide)
  have B1' := below_trans' ((Below.refl _ w).alloc (Nat.le_refl _) _) b1
  have H1 := Lib.hid B1'
  have k1 : w1.cell? ⟨x1, o1 + 4, none⟩ = some (.int .i64 10000) := by rw [hc1 4 (by decide)]; rfl
  have K1 := Lib.hid k1
  clear s1 b1 hc1 B1' k1
  go_wp2_with fail
  have h2 := decode_p _ 10 10 kb9 4 false _ (Sl.lit w1 (nats .u8 kb9) 10 5 rfl (by decide) (nats_one _ _)) (by decide) (by decide)
  rw [kdb9] at h2
  refine h2.mono ?_
  clear h2
  rintro e w2 ⟨B2, c2, rfl, s2, b2⟩
  dsimp only [List.length_cons, List.length_nil] at s2 ⊢
  obtain ⟨x2, o2, rfl, hx2, hc2⟩ := s2.at_ (by decide)
  have B2' := below_trans' ((Below.refl _ w1).alloc (Nat.le_refl _) _) b2
  have H2 := Lib.hid B2'
  have k2 : w2.cell? ⟨x2, o2 + 0, none⟩ = some (.int .i64 23713) := by rw [hc2 0 (by decide)]; rfl
  have k3 : w2.cell? ⟨x2, o2 + 3, none⟩ = some (.int .i64 48879) := by rw [hc2 3 (by decide)]; rfl
  have K2 := Lib.hid k2
  have K3 := Lib.hid k3
  clear s2 b2 hc2 B2' k2 k3
  go_wp2_with fail
  have h3 := run_all _ 8 8 kc9 0 false _ (Sl.lit w2 (nats .u8 kc9) 8 5 rfl (by decide) (nats_one _ _)) (by decide) (by decide) (by decide)
  rw [kdc9] at h3
  refine h3.mono ?_
  clear h3
  rintro e w3 ⟨B3, c3, rfl, s3, b3, _⟩
  dsimp only [List.length_cons, List.length_nil] at s3 ⊢
  obtain ⟨x3, o3, rfl, hx3, hc3⟩ := s3.at_ (by decide)
  have B3' := below_trans' ((Below.refl _ w2).alloc (Nat.le_refl _) _) b3
  have H3 := Lib.hid B3'
  have k4 : w3.cell? ⟨x3, o3 + 9, none⟩ = some (.int .i64 29) := by rw [hc3 9 (by decide)]; rfl
  have K4 := Lib.hid k4
  clear s3 b3 hc3 B3' k4
  go_wp2_with fail
  have h4 := kind_ok _ 1 1 [198] 0 _ (Sl.lit w3 (nats .u8 [198]) 1 5 rfl (by decide) (nats_one _ _)) (by decide) (by decide) (by decide) 3 rfl
  refine h4.mono ?_
  clear h4
  rintro e w4 ⟨rfl, rfl⟩
  have H4 := Lib.hid ((Below.refl _ w3).alloc (Nat.le_refl _) (.cells (nats .u8 [198]).toArray 5))
  obtain ⟨W, hW⟩ : ∃ W, W = w3.alloc (.cells (nats .u8 [198]).toArray 5) := ⟨_, rfl⟩
  have l1 : W.cell? ⟨x1, o1 + 4, none⟩ = some (.int .i64 10000) := by
    rw [hW, (below_trans' H2.out (below_trans' H3.out H4.out)).cell (p := ⟨x1, o1 + 4, none⟩) hx1, K1.out]
  have l2 : W.cell? ⟨x2, o2, none⟩ = some (.int .i64 23713) := by
    rw [hW, (below_trans' H3.out H4.out).cell (p := ⟨x2, o2, none⟩) hx2]; exact K2.out
  have l3 : W.cell? ⟨x2, o2 + 3, none⟩ = some (.int .i64 48879) := by
    rw [hW, (below_trans' H3.out H4.out).cell (p := ⟨x2, o2 + 3, none⟩) hx2, K3.out]
  have l4 : W.cell? ⟨x3, o3 + 9, none⟩ = some (.int .i64 29) := by
    rw [hW, H4.out.cell (p := ⟨x3, o3 + 9, none⟩) hx3, K4.out]
  have HB : Hid (Below w.heap.size w W) := by rw [hW]; exact Lib.hid (below_trans' H1.out (below_trans' H2.out (below_trans' H3.out H4.out)))
  rw [show w3.alloc (.cells (nats .u8 [198]).toArray 5) = W from hW.symm]
  clear hW
  go_wp2_with fail
  go_ret
  exact ⟨rfl, HB.out⟩
end Go.Proofs.Ytehcbgnoiogncaa
