/- ingotlaw3.known answers true. -/
import Derived.Test.YtihclbiohljmlaaPbDepth
import Derived.Lib.SlBytesConst
namespace Go.Proofs.Ytihclbiohljmlaa
open Go.RowKit
set_option linter.unusedVariables false

theorem Sl.litw (w : World) (l : List Value) (n : Nat) (e : TypeId) (fr : Nat × Nat) (hn : l.length = n) (hm : n ≤ maxLen) (h1 : ∀ u ∈ l, u.oneCell' = true) : Sl (w.alloc (.cells l.toArray e fr)) (some ⟨w.heap.size, 0, none⟩) n n l := by
  refine ⟨hn, Nat.le_refl _, hm, (fun h => by cases h), (fun ad had j u hu => ?_), h1⟩
  injection had with had
  subst had
  rw [add_none, Nat.zero_add]
  rw [cell_of_row (w.alloc (.cells l.toArray e fr)) w.heap.size j l.toArray e fr (heap_alloc_new w _)]
  simpa using hu
theorem Flds.keep {w w' : World} {A : Option Addr} {n c : Nat} {ps : List FA} (h : Flds w A n c ps) (hb : Below w.heap.size w w') : Flds w' A n c ps :=
  ⟨h.sl.keep hb, h.hl, fun p hp => (h.txt p hp).keep hb⟩

def kb3 : List Nat := [8, 172, 2, 16, 5, 26, 1, 120]
def kf3 : List FieldV := [⟨1, 0, 300, [], 0⟩, ⟨2, 0, 5, [], 3⟩, ⟨3, 2, 0, [120], 5⟩]
theorem kpar3 : parS kb3 = (kf3, 0) := by decide +kernel
theorem kdep3 : depS 3 kb3 = 1 := by decide +kernel

set_option maxHeartbeats 3200000 in
set_option maxRecDepth 100000 in
theorem known3 (w : World) : Calls Try.prog 10 #[] w fun e w' => e = .returned (.bool true) ∧ Below w.heap.size w w' := by
  have h1 := putuint_p none 0 0 [] 1 300 w (Sl.none_ w) (by decide) (by decide)
  rw [show ([] : List Nat) ++ putU 1 300 = [8, 172, 2] from by decide, show ((300 : Nat) : Int) = 300 from rfl] at h1
  have h2 := fun (A : Option Addr) (c : Nat) (w : World) h => putint_p A 3 c [8, 172, 2] 2 (-3) w h (by decide) (by decide)
  rw [show [8, 172, 2] ++ putU 2 (zigS (-3)).toNat = [8, 172, 2, 16, 5] from by decide] at h2
  have h3 := fun (A : Option Addr) (c : Nat) (B : Option Addr) (w : World) h hl => putbytes_p A 5 c [8, 172, 2, 16, 5] 3 B 1 1 [120] w h hl (by decide) (by decide)
  rw [show [8, 172, 2, 16, 5] ++ putT 3 [120] = kb3 from by decide] at h3
  have kc := fun (w : World) (C : Array Value) (n c : Nat) => Lib.run_convert_bytes_const (P := Try.prog) w 22 5 C n c Try.underlying22 Try.underlying5
  have Hh2 := Lib.hid h2
  have Hh3 := Lib.hid h3
  clear h2 h3
  go_enter Try.func10, Try.ntmps10
  go_wp2_with fail
  refine h1.mono ?_
  rintro e w1 ⟨A1, m1, c1, rfl, s1, b1⟩
  obtain rfl : 3 = m1 := by simpa [nats] using s1.len
  clear h1
  go_wp2_with fail
  refine (Hh2.out A1 c1 w1 s1).mono ?_
  rintro e w2 ⟨A2, m2, c2, rfl, s2, b2⟩
  obtain rfl : 5 = m2 := by simpa [nats] using s2.len
  have B2 := below_trans' b1 b2
  clear s1 b1 b2
  go_wp2_with fail
  refine (Hh3.out A2 c2 (some ⟨w2.heap.size, 0, none⟩) (w2.alloc (.cells #[.int .u8 120] 5 (1, 2))) (s2.keep (below_new _ _)) (Sl.litw w2 [.int .u8 120] 1 _ (1, 2) rfl (by decide) (by decide))).mono ?_
  rintro e w3 ⟨A3, m3, c3, rfl, s3, b3⟩
  obtain rfl : 8 = m3 := by simpa [nats, kb3] using s3.len
  have B3 := (B2.alloc B2.size (.cells #[.int .u8 120] 5 (1, 2))).trans (b3.mono (by have := B2.size; simp; omega))
  have hp4 := parse_p A3 8 c3 kb3 w3 s3 (by decide) (by decide)
  rw [kpar3] at hp4
  have Hp4 := Lib.hid hp4
  have HB3 := Lib.hid B3
  have Hs3 := Lib.hid s3
  clear s2 B2 b3 s3 B3 hp4 Hh2 Hh3 kc
  go_wp2_with fail
  refine Hp4.out.mono ?_
  rintro e w4 ⟨F, m, cF, ps, rfl, hfl, hps, b4⟩
  dsimp only at hps
  obtain rfl : 3 = m := by have h1 := hfl.hl; have h2 := congrArg List.length hps; rw [List.length_map] at h2; rw [← h1, h2]; rfl
  have hin : ∀ p ∈ ps, p.f ∈ kf3 := fun p hp => by rw [← hps]; exact List.mem_map_of_mem hp
  have Hfl := Lib.hid hfl
  have Hps := Lib.hid hps
  have Hin := Lib.hid hin
  have Hb4 := Lib.hid b4
  have hu5 := uint_p F 3 cF ps 1 w4 hfl (by decide)
  rw [hps, show uOf (lastF kf3 1 0) = 300 from by decide, show (lastF kf3 1 0).isSome = true from by decide, show ((300 : Nat) : Int) = 300 from rfl] at hu5
  have Hu5 := Lib.hid hu5
  clear hfl hps hin b4 hu5 Hp4
  go_wp2_with fail
  refine Hu5.out.mono ?_
  rintro e w5 ⟨rfl, b5⟩
  have hi6 := int_p F 3 cF ps 2 w5 (Hfl.out.keep b5) (by decide) (fun p hp => (by decide : ∀ f ∈ kf3, f.u < 18446744073709551616) _ (Hin.out p hp))
  rw [Hps.out, show uOf (lastF kf3 2 0) = 5 from by decide, show zagS ((5 : Nat) : Int) = -3 from by decide, show (lastF kf3 2 0).isSome = true from by decide] at hi6
  have Hi6 := Lib.hid hi6
  have Hb5 := Lib.hid b5
  clear hi6 b5 Hu5
  go_wp2_with fail
  refine Hi6.out.mono ?_
  rintro e w6 ⟨rfl, b6⟩
  have ht7 := text_p F 3 cF ps 3 w6 (Hfl.out.keep (below_trans' Hb5.out b6)) (by decide) (fun p hp => (by decide : ∀ f ∈ kf3, f.b.length ≤ 1000000000000) _ (Hin.out p hp))
  rw [Hps.out, show bOf (lastF kf3 3 2) = [120] from by decide, show (lastF kf3 3 2).isSome = true from by decide] at ht7
  have Ht7 := Lib.hid ht7
  have Hb6 := Lib.hid (below_trans' Hb5.out b6)
  clear ht7 b6 Hi6
  go_wp2_with fail
  refine Ht7.out.mono ?_
  rintro e w7 ⟨B7, c7, m7, rfl, hm7, t7, b7⟩
  obtain rfl : 1 = m7 := by simpa using hm7.symm
  have hu8 := uints_p F 3 cF ps 1 w7 (Hfl.out.keep (below_trans' Hb6.out b7)) (by decide) (fun p hp => (by decide : ∀ f ∈ kf3, f.b.length ≤ 1000000) _ (Hin.out p hp)) (fun p hp => (by decide : ∀ f ∈ kf3, ∀ x ∈ f.b, x < 256) _ (Hin.out p hp))
  rw [Hps.out, show uintsR 1 kf3 [] = ([300], 0) from by decide] at hu8
  have Hu8 := Lib.hid hu8
  have Hb7 := Lib.hid (below_trans' Hb6.out b7)
  have Ht := Lib.hid t7
  clear hu8 b7 Ht7 hm7 t7
  go_wp2_with fail
  refine Hu8.out.mono ?_
  rintro e w8 ⟨F8, m8, c8, rfl, s8, b8⟩
  obtain rfl : 1 = m8 := by simpa [nats] using s8.len
  have q1 := run_convert_sl (P := Try.prog) Try.underlying22 Try.underlying5 Try.underlying9 (show Sl w8 B7 1 c7 (nats .u8 [120]) from (Ht.out.keep b8).sl)
  rw [show strOf [120] = ⟨#[120]⟩ from by decide] at q1
  have ha9 := all_f F 3 cF ps 3 w8 (Hfl.out.keep (below_trans' Hb7.out b8)) (by decide) (fun p hp => (by decide : ∀ f ∈ kf3, f.b.length ≤ 1000000000000) _ (Hin.out p hp))
  rw [Hps.out, show allF kf3 3 = [[120]] from by decide] at ha9
  have Ha9 := Lib.hid ha9
  have Hb8 := Lib.hid (below_trans' Hb7.out b8)
  have Hd10 := fun w h => depth_p 3 3 A3 8 c3 kb3 w (by decide) (by decide) (by decide) h (by decide) (by decide)
  rw [kdep3] at Hd10
  have Hd := Lib.hid Hd10
  clear ha9 b8 Hu8 Hd10 s8
  dsimp only
  go_wp2_with fail
  refine Ha9.out.mono ?_
  rintro e w9 ⟨F9, m9, c9, ts, rfl, r9, ht9, b9⟩
  obtain rfl : 1 = m9 := by have h1 := r9.sl.len; rw [List.length_map] at h1; have h2 := congrArg List.length ht9; rw [List.length_map] at h2; rw [← h1, h2]; rfl
  have Hb9 := Lib.hid (below_trans' (below_trans' Hb4.out Hb8.out) b9)
  clear r9 ht9 b9 q1 Ha9
  go_wp2_with fail
  refine (Hd.out _ (Hs3.out.keep Hb9.out)).mono ?_
  rintro e w10 ⟨rfl, b10⟩
  go_wp2_with fail
  go_ret
  exact ⟨by first | rfl | simp, HB3.out.trans ((below_trans' Hb9.out b10).mono HB3.out.size)⟩
end Go.Proofs.Ytihclbiohljmlaa
