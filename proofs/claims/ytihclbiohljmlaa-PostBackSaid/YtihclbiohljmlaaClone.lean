/- slices.Clone and slices.Clip at byte slices. -/
import Derived.Test.YtihclbiohljmlaaBase
namespace Go.Proofs.Ytihclbiohljmlaa
open Go.RowKit

set_option maxHeartbeats 400000 in
theorem clone_u8 (A : Option Addr) (n c : Nat) (xs : List Value) (w : World) (h : Sl w A n c xs) (hn : n ≤ 140737488355328) :
    Calls Try.prog 44 #[.slice A n c] w fun e w' => ∃ v, e = .returned v ∧ w'.ownsRow w.heap.size 5 1 v n xs ∧ Below w.heap.size w w' := by
  have q := fun (w : World) (a : Option Addr) (l c : Nat) => Lib.run_eql_slice_nil (P := Try.prog) w 22 5 a l c 0 0 Try.underlying22
  obtain ⟨i0, hi, hz0, hz1, hz2⟩ := info_parts Try.info5
  rcases A with _ | ad
  · have hc := h.nil rfl
    have hn0 : n = 0 := by have := h.le; omega
    have hxs : xs = [] := List.eq_nil_of_length_eq_zero (by rw [h.len, hn0])
    subst hxs hn0
    go_enter Try.func44, Try.ntmps44
    go_wp2
    go_ret
    exact ⟨_, rfl, World.ownsRow_nil _ _ _ _, Below.refl _ _⟩
  · have hs : Sl (w.alloc (.cells #[] 5)) (some ad) n c xs := h.keep ((Below.refl _ _).alloc (Nat.le_refl _) _)
    have ho : (w.alloc (.cells #[] 5)).ownsRow w.heap.size 5 1 (.slice (some ⟨w.heap.size, 0, none⟩) 0 0) 0 [] := World.ownsRow_made w #[] 0 (Nat.le_refl _) (by decide) rfl
    go_enter Try.func44, Try.ntmps44
    go_wp2_with (at_builtin; refine wpList_append_sl rfl _ _ 22 rfl w.heap.size 5 i0 (.int .u8 0) 1 Try.underlying22 hi hz0 hz1 hz2 rfl _ 0 [] rfl ho _ n c xs rfl hs ?c1 ?c2 ?c3 ?_)
    case c1 => unfold maxLen; omega
    case c2 => omega
    case c3 => simp
    intro v' w' h1 h2 _ _
    go_wp2
    go_ret
    exact ⟨_, rfl, h1, ((Below.refl _ _).alloc (Nat.le_refl _) _).trans h2⟩

set_option maxHeartbeats 400000 in
theorem clip_u8 (A : Option Addr) (n c : Nat) (xs : List Value) (w : World) (h : Sl w A n c xs) :
    Calls Try.prog 43 #[.slice A n c] w fun e w' => e = .returned (.slice A n n) ∧ Sl w A n n xs ∧ w' = w := by
  have hle := h.le
  have hmax := h.max
  unfold maxLen at hmax
  go_enter Try.func43, Try.ntmps43
  go_wp2
  go_ret
  exact ⟨rfl, ⟨h.len, Nat.le_refl _, by have := h.max; omega, fun hA => by have := h.nil hA; omega, h.cells, h.one⟩, rfl⟩
end Go.Proofs.Ytihclbiohljmlaa
