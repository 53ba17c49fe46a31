/- The statements' own 'same' at numbers; and the short answers of Put and Get. -/
import Derived.Test.YtepkboilfgmkkaaBase
namespace Go.Proofs.Ytepkboilfgmkkaa
open Go.RowKit
set_option linter.unusedVariables false

set_option maxHeartbeats 800000 in
theorem same_yes (A A' : Option Addr) (n c c' : Nat) (xs : List Nat) (w : World) (h : Sl w A n c (nats .u64 xs)) (h' : Sl w A' n c' (nats .u64 xs)) (hn : n ≤ 100000000000000) :
    Calls Try.prog 19 #[.slice A n c, .slice A' n c'] w fun e w' => e = .returned (.bool true) ∧ Below w.heap.size w w' := by
  have hlen := h.len
  rw [nats_length] at hlen
  have Hlen := Lib.hid hlen
  clear hlen
  go_enter Try.func19, Try.ntmps19
  go_wp2_with fail
  go_loopw [5] (fun iv wr => ∃ i : Nat, i ≤ n ∧ iv = .int .i64 (i : Int) ∧ ∃ k, wr = w.drewN k) (fun iv _ => n - (intOf iv).toNat)
  case atStart => exact ⟨0, Nat.zero_le _, rfl, 0, rfl⟩
  case round =>
    obtain ⟨i, hi, rfl, k, rfl⟩ := hrel
    by_cases hlt : i < n
    · obtain ⟨b, off, rfl, hbw, hcell⟩ := h.at_ (by omega)
      obtain ⟨b', off', rfl, hbw', hcell'⟩ := h'.at_ (by omega)
      have h1 := hcell i hlt
      have h2 := hcell' i hlt
      generalize hx : (nats .u64 xs).getD i undef = x at *
      have hx' : ∃ y : Nat, x = .int .u64 (y : Int) := by
        rw [← hx, nats_getD _ _ _ (by rw [Hlen.out]; exact hlt)]; exact ⟨_, rfl⟩
      obtain ⟨y, rfl⟩ := hx'
      have c1 : ((w.drewN k).drew).cell? ⟨b, off + i, none⟩ = some (.int .u64 (y : Int)) := h1
      have c2 : ((w.drewN k).drew).cell? ⟨b', off' + i, none⟩ = some (.int .u64 (y : Int)) := h2
      clear hcell hcell' hx
      go_wp2_with fail
      go_region
      all_goals go_wp2_with fail
      all_goals (refine ⟨⟨i + 1, by omega, by go_num, k + 1, rfl⟩, by simp only [intOf]; omega⟩)
    · go_wp2_with fail
      go_ret
      exact ⟨rfl, ⟨rfl, rfl, rfl, Nat.le_refl _, fun _ _ => rfl⟩⟩
end Go.Proofs.Ytepkboilfgmkkaa
