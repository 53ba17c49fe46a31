/- rle2's Patch. -/
import Derived.Test.YtehcbgnoiogncaaRunLay
namespace Go.Proofs.Ytehcbgnoiogncaa
open Go.RowKit
open PackMath
set_option linter.unusedVariables false

theorem rdpk_own {w : World} {g : Nat} {A : Option Addr} {n c : Nat} {bs : List Nat} {p : Nat} {sg : Bool} (h : Rd w g A n c bs p sg) (k wd : Nat) (hk : k ≤ 1048576) (hw : wd ≤ 64) (hr : p + nbytes (k * wd) ≤ n) :
    Calls Try.prog 33 #[.pointer (some ⟨g, 0, none⟩), .int .i64 (k : Int), .int .i64 (wd : Int)] w fun e w' => PkOwn w g A n c bs (p + nbytes (k * wd)) sg k (getSpec bs (8 * p) k wd) 0 e w' :=
  rdpacked_own h k wd k (nbytes (k * wd)) 0 _ hr fun w' s => by
    refine (get_own A n c bs p k wd w' s h.b8 hw hk (by rw [bytesF_nat k wd hk hw]; omega) (by omega)).mono ?_
    rintro e w2 ⟨A2, c2, rfl, s2, b2, o2⟩
    exact ⟨A2, c2, by rw [bytesF_nat k wd hk hw]; rfl, o2, b2⟩
theorem patchS_eq (bs : List Nat) (p : Nat) (sg : Bool) (c0 d0 bt k wd m wp : Nat) (base : Int) (hc : bs.getD (p + 2) 0 = c0) (hd : bs.getD (p + 3) 0 = d0) (hbt : widN (c0 % 32) = bt) (hwd : widN (hdCode bs p) = wd) (hk : hdCount bs p = k)
    (hwp : (fitF ((bt + (d0 / 32 + 1) : Nat) : Int)).toNat = wp) (hm : d0 % 32 = m) (hb : baseOf (bigV ((bs.drop (p + 4)).take (c0 / 32 + 1)) 0) (c0 / 32 + 1) = base) :
    patchS bs p sg = if bs.length < p + 4 then badR 3 else if 64 < bt + (d0 / 32 + 1) then badR 2 else if bs.length < p + 4 + (c0 / 32 + 1) then badR 3
      else if bs.length < p + 4 + (c0 / 32 + 1) + nbytes (k * wd) then badR 3
      else if bs.length < p + 4 + (c0 / 32 + 1) + nbytes (k * wd) + nbytes (m * wp) then badR 3
      else match layS wd bt (getSpec bs (8 * (p + 4 + (c0 / 32 + 1))) k wd) (getSpec bs (8 * (p + 4 + (c0 / 32 + 1) + nbytes (k * wd))) m wp) 0 with
        | none => badR 2
        | some l => okR (baseL sg base l) (4 + (c0 / 32 + 1) + nbytes (k * wd) + nbytes (m * wp)) := by
  subst hc hd hbt hwd hk hwp hm hb
  rfl
set_option maxHeartbeats 1600000 in
set_option maxRecDepth 4000 in
theorem rdpatch_short {w : World} {g : Nat} {A : Option Addr} {n c : Nat} {bs : List Nat} {p : Nat} {sg : Bool} (h : Rd w g A n c bs p sg) (h4 : n < p + 4) :
    Calls Try.prog 26 #[.pointer (some ⟨g, 0, none⟩)] w fun e w' => KdOut w g A n c bs p sg (badR 3) e w' := by
  by_cases h2 : n < p + 2
  · have HN := Lib.hid (rdhead_no h h2)
    clear h h2 h4
    go_enter Try.func26, Try.ntmps26
    go_wp2_with fail
    refine HN.out.mono ?_
    rintro e w1 ⟨x, y, p', rfl, t1⟩
    have T1 := Lib.hid t1
    clear t1
    go_wp2_with fail
    go_ret2
    exact kd_bad 3 (by decide) T1.out
  · have HH := Lib.hid (rdhead_ok h (by omega))
    have hk1 := hdCount_le h p
    generalize hdCount bs p = k at *
    generalize hdCode bs p = co at *
    by_cases h3 : n < p + 3
    · have HB1 := Lib.hid (fun w' (h' : Rd w' g A n c bs (p + 2) sg) => rdbyte_no h' (by omega))
      clear h h2 h3 h4
      go_enter Try.func26, Try.ntmps26
      go_wp2_with fail
      refine HH.out.mono ?_
      rintro e w1 ⟨rfl, t1⟩
      have T1 := Lib.hid t1
      clear t1
      go_wp2_with fail
      refine (HB1.out _ T1.out.1).mono ?_
      rintro e w2 ⟨rfl, t2⟩
      have T2 := Lib.hid (T1.out.trans t2)
      clear t2
      go_wp2_with fail
      refine (HB1.out _ T2.out.1).mono ?_
      rintro e w3 ⟨rfl, t3⟩
      have T3 := Lib.hid (T2.out.trans t3)
      clear t3
      go_wp2_with fail
      go_ret2
      exact kd_bad 3 (by decide) T3.out
    · have HB1 := Lib.hid (fun w' (h' : Rd w' g A n c bs (p + 2) sg) => rdbyte_ok h' (by omega))
      have HB2 := Lib.hid (fun w' (h' : Rd w' g A n c bs (p + 2 + 1) sg) => rdbyte_no h' (by omega))
      clear h h2 h3 h4
      go_enter Try.func26, Try.ntmps26
      go_wp2_with fail
      refine HH.out.mono ?_
      rintro e w1 ⟨rfl, t1⟩
      have T1 := Lib.hid t1
      clear t1
      go_wp2_with fail
      refine (HB1.out _ T1.out.1).mono ?_
      rintro e w2 ⟨rfl, t2⟩
      have T2 := Lib.hid (T1.out.trans t2)
      clear t2
      go_wp2_with fail
      refine (HB2.out _ T2.out.1).mono ?_
      rintro e w3 ⟨rfl, t3⟩
      have T3 := Lib.hid (T2.out.trans t3)
      clear t3
      go_wp2_with fail
      go_ret2
      exact kd_bad 3 (by decide) T3.out
end Go.Proofs.Ytehcbgnoiogncaa
