/- ingotlaw1.known answers true. -/
import Derived.Test.YtepkboilfgmkkaaNumsMul
import Derived.Test.YtepkboilfgmkkaaNumsZig
import Derived.Test.YtepkboilfgmkkaaNumsGet
namespace Go.Proofs.Ytepkboilfgmkkaa
open Go.RowKit
open PackMath
set_option linter.unusedVariables false

set_option maxHeartbeats 1600000 in
theorem known1 (w : World) : Calls Try.prog 30 #[] w fun e w' => e = .returned (.bool true) ∧ Below w.heap.size w w' := by
  have hput := putvar_p none 0 0 [] 300 w (Sl.none_ _) (by decide) (by decide)
  rw [show ([] : List Nat) ++ varP 300 = [172, 2] from by decide] at hput
  have Hput := Lib.hid hput
  clear hput
  go_enter Try.func30, Try.ntmps30
  go_wp2_with fail
  refine Hput.out.mono ?_
  rintro e w1 ⟨A, m, rfl, hs, hb1⟩
  have hvar := varp A m m [172, 2] 0 w1 hs (by decide) (by decide) (by decide)
  rw [show varS [172, 2] 0 = (300, 2, 0) from by decide] at hvar
  unfold varV at hvar
  have Hvar := Lib.hid hvar
  clear hvar hs
  go_wp2_with fail
  refine Hvar.out.mono ?_
  rintro e w2 ⟨rfl, rfl⟩
  have hput := putbig_p none 0 0 [] 258 2 w2 (Sl.none_ _) (by decide) (by decide)
  rw [show ([] : List Nat) ++ bigP 258 2 = [1, 2] from by decide] at hput
  have Hput2 := Lib.hid hput
  clear hput
  go_wp2_with fail
  refine Hput2.out.mono ?_
  rintro e w3 ⟨A2, m2, rfl, hs2, hb2⟩
  have hbig := bigp A2 m2 m2 [1, 2] 0 2 w3 hs2 (by decide) (by decide) (by decide) (by decide) (by decide)
  rw [show bigS [1, 2] 0 2 = (258, true) from by decide] at hbig
  unfold bigVal at hbig
  have Hbig := Lib.hid hbig
  clear hbig hs2
  go_wp2_with fail
  refine Hbig.out.mono ?_
  rintro e w4 ⟨rfl, rfl⟩
  go_wp2_with fail
  refine (mul_p _ _ _ (by unfold InI; decide) (by unfold InI; decide)).mono ?_
  rintro e w5 ⟨rfl, rfl⟩
  rw [show mulS 3 4 = some 12 from by decide]
  unfold optV
  go_wp2_with fail
  refine (add_p _ _ _ (by unfold InI; decide) (by unfold InI; decide)).mono ?_
  rintro e w6 ⟨rfl, rfl⟩
  rw [show addS 9223372036854775807 1 = none from by decide]
  unfold optV
  go_wp2_with fail
  refine (sub_p _ _ _ (by unfold InI; decide) (by unfold InI; decide)).mono ?_
  rintro e w7 ⟨rfl, rfl⟩
  rw [show subS 3 4 = some (-1) from by decide]
  unfold optV
  go_wp2_with fail
  refine (zig_p _ _ (by unfold InI; decide)).mono ?_
  rintro e w8 ⟨rfl, rfl⟩
  rw [show zigS (-1) = 1 from by decide]
  go_wp2_with fail
  refine (zag_p _ _ (by decide) (by decide)).mono ?_
  rintro e w9 ⟨rfl, rfl⟩
  rw [show zagS 2 = 1 from by decide]
  go_wp2_with fail
  refine (bits_p 255 _ (by decide)).mono ?_
  rintro e w10 ⟨rfl, rfl⟩
  rw [show Lib.bitLen 255 = 8 from by decide]
  go_wp2_with fail
  go_ret
  exact ⟨by first | rfl | simp, below_trans' hb1 hb2⟩
end Go.Proofs.Ytepkboilfgmkkaa
