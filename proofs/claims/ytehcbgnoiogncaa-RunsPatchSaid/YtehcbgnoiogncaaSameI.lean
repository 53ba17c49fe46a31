/- The statements' own 'Same' at int64. -/
import Derived.Test.YtehcbgnoiogncaaRunKnown
namespace Go.Proofs.Ytehcbgnoiogncaa
open Go.RowKit
set_option linter.unusedVariables false

set_option maxHeartbeats 800000 in
theorem sameI_yes (A A' : Option Addr) (n c c' : Nat) (xs : List Int) (w : World) (h : Sl w A n c (ints .i64 xs)) (h' : Sl w A' n c' (ints .i64 xs)) (hn : n ≤ 100000000000000) :
    Calls Try.prog 16 #[.slice A n c, .slice A' n c'] w fun e w' => e = .returned (.bool true) ∧ Below w.heap.size w w' := by
  have hlen := h.len
  rw [ints_length] at hlen
  have Hlen := Lib.hid hlen
  clear hlen
  go_enter Try.func16, Try.ntmps16
  go_wp2_with fail
  go_loopw [5] (fun iv wr => ∃ i : Nat, i ≤ n ∧ iv = .int .i64 (i : Int) ∧ ∃ k, wr = w.drewN k) (fun iv _ => n - (intOf iv).toNat)
  case atStart => exact ⟨0, Nat.zero_le _, rfl, 0, rfl⟩
  case round =>
    obtain ⟨i, hi, rfl, k, rfl⟩ := hrel
    by_cases hlt : i < n
    · obtain ⟨b, off, rfl, hbw, hcell⟩ := h.at_ (by omega)
      obtain ⟨b', off', rfl, hbw', hcell'⟩ := h'.at_ (by omega)
      have h1 := hcell i hlt
      have h2 := hcell' i hlt
      generalize hx : (ints .i64 xs).getD i undef = x at *
      have hx' : ∃ y : Int, x = .int .i64 y := by
        rw [← hx, ints_getD _ _ _ (by rw [Hlen.out]; exact hlt)]; exact ⟨_, rfl⟩
      obtain ⟨y, rfl⟩ := hx'
      have c1 : ((w.drewN k).drew).cell? ⟨b, off + i, none⟩ = some (.int .i64 y) := h1
      have c2 : ((w.drewN k).drew).cell? ⟨b', off' + i, none⟩ = some (.int .i64 y) := h2
      clear hcell hcell' hx
      go_wp2_with fail
      go_region
      all_goals go_wp2_with fail
      all_goals (refine ⟨⟨i + 1, by omega, by go_num, k + 1, rfl⟩, by simp only [intOf]; omega⟩)
    · go_wp2_with fail
      go_ret
      exact ⟨rfl, ⟨rfl, rfl, rfl, Nat.le_refl _, fun _ _ => rfl⟩⟩
end Go.Proofs.Ytehcbgnoiogncaa
