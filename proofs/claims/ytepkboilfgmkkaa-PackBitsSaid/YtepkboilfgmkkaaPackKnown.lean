/- ingotlaw2.known answers true. -/
import Derived.Test.YtepkboilfgmkkaaPackPut
import Derived.Test.YtepkboilfgmkkaaPackGet
namespace Go.Proofs.Ytepkboilfgmkkaa
open Go.RowKit
open PackMath
set_option linter.unusedVariables false

set_option maxHeartbeats 1600000 in
theorem known2 (w : World) : Calls Try.prog 16 #[] w fun e w' => e = .returned (.bool true) ∧ Below w.heap.size w w' := by
  have hl : Sl (w.alloc (.cells #[.int .u64 1, .int .u64 31, .int .u64 2] 34)) (some ⟨w.heap.size, 0, none⟩) 3 3 (nats .u64 [1, 31, 2]) := Sl.lit w (nats .u64 [1, 31, 2]) 3 34 rfl (by decide) (nats_one _ _)
  have hput := put_ok none 0 0 [] (some ⟨w.heap.size, 0, none⟩) 3 3 [1, 31, 2] 5 (w.alloc (.cells #[.int .u64 1, .int .u64 31, .int .u64 2] 34)) (Sl.none_ _) hl (by decide) (by decide) (by decide)
  have Hput := Lib.hid hput
  clear hput hl
  go_enter Try.func16, Try.ntmps16
  go_wp2_with fail
  refine Hput.out.mono ?_
  rintro e w1 ⟨A, m, c, rfl, hs, hb1⟩
  have hps : ([] : List Nat) ++ putSpec [1, 31, 2] 5 = [15, 196] := by decide
  rw [hps] at hs
  have hm := hs.len
  simp only [nats, List.length_map, List.length_cons, List.length_nil] at hm
  subst hm
  have hget := get_ok A 2 c [15, 196] 0 3 5 w1 hs (by decide) (by decide) (by decide) (by decide) (by decide)
  have hgs : getSpec [15, 196] (8 * 0) 3 5 = [1, 31, 2] := by decide
  have hbf : bytesF ((3 : Nat) : Int) ((5 : Nat) : Int) = 2 := by decide
  rw [hgs, hbf] at hget
  have Hget := Lib.hid hget
  clear hget hgs hbf hps hs
  go_wp2_with fail
  refine Hget.out.mono ?_
  rintro e w2 ⟨A', c', rfl, hs2, hb2⟩
  obtain ⟨b, off, rfl, hbw, hcell⟩ := hs2.at_ (by decide)
  have hc1 := hcell 1 (by decide)
  have hc1' : w2.cell? ⟨b, off + 1, none⟩ = some (.int .u64 31) := hc1
  clear hcell hc1
  go_wp2_with fail
  refine (code_p _ _).mono ?_
  rintro e w3 ⟨rfl, hb3⟩
  have e1 : codeO 26 = some 24 := by decide
  rw [e1]
  have hc3 : w3.cell? ⟨b, off + 1, none⟩ = some (.int .u64 31) := (hb3.cell (p := ⟨b, off + 1, none⟩) hbw).trans hc1'
  clear e1
  go_wp2_with fail
  refine (bytes_p _ _ _).mono ?_
  rintro e w4 ⟨rfl, rfl⟩
  rw [show bytesF 3 5 = 2 from by decide]
  go_wp2_with fail
  refine (width_p _ _).mono ?_
  rintro e w4 ⟨rfl, hb4⟩
  rw [show widthF 31 = 64 from by decide]
  go_wp2_with fail
  refine (fit_p _ _).mono ?_
  rintro e w5 ⟨rfl, hb5⟩
  rw [show fitF 25 = 26 from by decide]
  go_wp2_with fail
  go_ret
  exact ⟨rfl, below_trans' (below_trans' (below_trans' (below_trans' (below_trans' (below_new w _) hb1) hb2) hb3) hb4) hb5⟩
end Go.Proofs.Ytepkboilfgmkkaa
