/- rle2.Kind, slices.Clip at int64, rle2.Run. -/
import Derived.Test.YtehcbgnoiogncaaRunDel
namespace Go.Proofs.Ytehcbgnoiogncaa
open Go.RowKit
open PackMath
set_option linter.unusedVariables false

set_option maxHeartbeats 400000 in
theorem clip_i64 (A : Option Addr) (n c : Nat) (xs : List Value) (w : World) (h : Sl w A n c xs) :
    Calls Try.prog 23 #[.slice A n c] w fun e w' => e = .returned (.slice A n n) ∧ w' = w := by
  have hle := h.le
  have hmax := h.max
  unfold maxLen at hmax
  clear h
  go_enter Try.func23, Try.ntmps23
  go_wp2
  go_ret
  exact ⟨rfl, rfl⟩
theorem Sl.clipped {w : World} {A : Option Addr} {n c : Nat} {xs : List Value} (h : Sl w A n c xs) : Sl w A n n xs :=
  ⟨h.len, Nat.le_refl _, by have := h.max; have := h.le; omega, fun hA => by have := h.nil hA; have := h.le; omega, h.cells, h.one⟩

set_option maxHeartbeats 800000 in
theorem kind_ok (A : Option Addr) (n c : Nat) (bs : List Nat) (p : Nat) (w : World) (hs : Sl w A n c (nats .u8 bs)) (h8 : ∀ x ∈ bs, x < 256) (hp : p < n) (hn : n ≤ 1000000000) (V : Int) (hV : ((bs.getD p 0 / 64 : Nat) : Int) = V) :
    Calls Try.prog 22 #[.slice A n c, .int .i64 (p : Int)] w fun e w' => e = .returned (.tuple #[.int .i64 V, .bool true]) ∧ w = w' := by
  have hlen : bs.length = n := by have := hs.len; rwa [nats_length] at this
  obtain ⟨b, off, rfl, hbw, hcell⟩ := hs.at_ (by omega)
  have hc := hcell p hp
  rw [nats_getD _ _ _ (by omega)] at hc
  have x8 : bs.getD p 0 < 256 := by rw [getD_eq _ _ (by omega)]; exact h8 _ (List.getElem_mem _)
  generalize bs.getD p 0 = x at *
  have e1 : (x : Int) / 64 = V := by rw [← hV]; simp
  clear hs hcell h8 hV
  have E1 := Lib.hid e1
  clear e1
  go_enter Try.func22, Try.ntmps22
  go_wp2
  go_ret2
  exact ⟨by first | rfl | (simp; exact E1.out), rfl⟩
set_option maxHeartbeats 800000 in
theorem kind_no (A : Option Addr) (n c : Nat) (bs : List Nat) (w : World) (hs : Sl w A n c (nats .u8 bs)) (hn : n ≤ 1000000000) :
    Calls Try.prog 22 #[.slice A n c, .int .i64 (n : Int)] w fun e w' => e = .returned (.tuple #[.int .i64 0, .bool false]) ∧ w = w' := by
  clear hs
  go_enter Try.func22, Try.ntmps22
  go_wp2
  go_ret2
  exact ⟨rfl, rfl⟩

/-- What Run answers. -/
def RunOut (w : World) (n p : Nat) (r : RunR) (e : Ending) (w' : World) : Prop :=
  ∃ B cB, e = .returned (.tuple #[.slice B r.1.length cB, .int .i64 (r.2.1 : Int), .int .i64 (r.2.2 : Int)]) ∧ Sl w' B r.1.length cB (ints .i64 r.1) ∧ Below w.heap.size w w' ∧ (r.2.2 = 0 → p + r.2.1 ≤ n)
theorem run_bad {w w' : World} {n p : Nat} (er : Nat) (hp : p ≤ n) (b : Below w.heap.size w w') : RunOut w n p (badR er) (.returned (.tuple #[.slice none 0 0, .int .i64 0, .int .i64 (er : Int)])) w' :=
  ⟨none, 0, rfl, Sl.none_ _, b, fun _ => hp⟩
abbrev rdObj (A : Option Addr) (n c p : Nat) (sg : Bool) : Obj := .cells #[.slice A n c, .int .i64 (p : Int), .bool sg] 58 (0, 0)
theorem Rd.new {w : World} {A : Option Addr} {n c : Nat} {bs : List Nat} (p : Nat) (sg : Bool) (hs : Sl w A n c (nats .u8 bs)) (h8 : ∀ x ∈ bs, x < 256) (hn : n ≤ 1000000000) (hp : p < n) :
    Rd (w.alloc (rdObj A n c p sg)) w.heap.size A n c bs p sg :=
  ⟨Array.getElem?_push_size, hs.keep ((Below.refl _ _).alloc (Nat.le_refl _) _), (fun ad had => by
    obtain ⟨b, off, h1, h2, _⟩ := hs.at_ (by omega)
    rw [had] at h1
    injection h1 with h1
    subst h1
    exact Nat.ne_of_lt h2), h8, hn, Nat.le_of_lt hp⟩
theorem RdTo.old {w w' : World} {o : Obj} {A : Option Addr} {n c : Nat} {bs : List Nat} {p : Nat} {sg : Bool} (t : RdTo (w.alloc o) w.heap.size A n c bs p sg w') : Below w.heap.size w w' := by
  have hb := (Below.refl w.heap.size w).alloc (Nat.le_refl _) o
  exact hb.grown t.2 hb.size (fun k hk => by injection hk with hk; omega)

/-- The contract of a kind's reader. -/
def KdHas (f : Nat) (A : Option Addr) (n c : Nat) (bs : List Nat) (p : Nat) (sg : Bool) (r : RunR) : Prop :=
  ∀ (w : World) (g : Nat), Rd w g A n c bs p sg → Calls Try.prog f #[.pointer (some ⟨g, 0, none⟩)] w fun e w' => KdOut w g A n c bs p sg r e w'
theorem runS_end (bs : List Nat) (sg : Bool) (n : Nat) (h : bs.length = n) : runS bs n sg = badR 3 := by
  unfold runS
  rw [if_neg (by omega), if_pos h]
theorem Rd.c1' {w : World} {g : Nat} {A : Option Addr} {n c : Nat} {bs : List Nat} {p : Nat} {sg : Bool} (h : Rd w g A n c bs p sg) : w.cell? ⟨g, 1, none⟩ = some (.int .i64 (p : Int)) := h.c1

set_option maxHeartbeats 1600000 in
set_option maxRecDepth 4000 in
theorem run_k0 (A : Option Addr) (n c : Nat) (bs : List Nat) (p : Nat) (sg : Bool) (w : World) (r : RunR) (hs : Sl w A n c (nats .u8 bs)) (h8 : ∀ x ∈ bs, x < 256) (hp : p < n) (hn : n ≤ 1000000000)
    (hk : bs.getD p 0 / 64 = 0) (hf : KdHas 24 A n c bs p sg r) (he0 : r.2.2 ≠ 0 → r = badR r.2.2) :
    Calls Try.prog 19 #[.slice A n c, .int .i64 (p : Int), .bool sg] w fun e w' => RunOut w n p r e w' := by
  have HK := Lib.hid (kind_ok A n c bs p w hs h8 hp hn 0 (by rw [hk]; rfl))
  have HF := Lib.hid (hf _ _ (Rd.new p sg hs h8 hn hp))
  have HE := Lib.hid he0
  clear hk hf he0 hs h8
  obtain ⟨l, k, er⟩ := r
  dsimp only at *
  go_enter Try.func19, Try.ntmps19
  go_wp2_with fail
  refine HK.out.mono ?_
  rintro e w1 ⟨rfl, rfl⟩
  go_wp2_with fail
  refine HF.out.mono ?_
  rintro e w2 ⟨B, cB, p', rfl, s2, t2, hp'⟩
  have hple := t2.1.le
  have S2 := Lib.hid s2
  have T2 := Lib.hid t2
  have P2 := Lib.hid hp'
  have C1 := Lib.hid t2.1.c1
  clear s2 t2 hp'
  dsimp only at *
  by_cases her : er = 0
  · subst her
    have hpp := P2.out (by trivial)
    subst hpp
    have c1 := C1.out
    have Hcl := Lib.hid (fun W (h : Below w2.heap.size w2 W) => clip_i64 B l.length cB _ W (S2.out.keep h))
    clear HF HK C1
    go_wp2_with fail
    go_quiet ((go_at_call 23; exact Calls.quiet_of_same (Hcl.out _ (below_drewN _ _))))
    go_wp2_with fail
    go_ret3
    exact ⟨B, l.length, by first | rfl | (simp; omega), (S2.out.keep (below_drewN _ _)).clipped, (T2.out.drewN _).old, fun _ => T2.out.1.le⟩
  · have e := HE.out her
    injection e with e1 e2
    injection e2 with e2 e3
    subst e1 e2
    go_wp2_with fail
    go_ret3
    exact run_bad er (Nat.le_of_lt hp) T2.out.old

set_option maxHeartbeats 1600000 in
set_option maxRecDepth 4000 in
theorem run_k1 (A : Option Addr) (n c : Nat) (bs : List Nat) (p : Nat) (sg : Bool) (w : World) (r : RunR) (hs : Sl w A n c (nats .u8 bs)) (h8 : ∀ x ∈ bs, x < 256) (hp : p < n) (hn : n ≤ 1000000000)
    (hk : bs.getD p 0 / 64 = 1) (hf : KdHas 25 A n c bs p sg r) (he0 : r.2.2 ≠ 0 → r = badR r.2.2) :
    Calls Try.prog 19 #[.slice A n c, .int .i64 (p : Int), .bool sg] w fun e w' => RunOut w n p r e w' := by
  have HK := Lib.hid (kind_ok A n c bs p w hs h8 hp hn 1 (by rw [hk]; rfl))
  have HF := Lib.hid (hf _ _ (Rd.new p sg hs h8 hn hp))
  have HE := Lib.hid he0
  clear hk hf he0 hs h8
  obtain ⟨l, k, er⟩ := r
  dsimp only at *
  go_enter Try.func19, Try.ntmps19
  go_wp2_with fail
  refine HK.out.mono ?_
  rintro e w1 ⟨rfl, rfl⟩
  go_wp2_with fail
  refine HF.out.mono ?_
  rintro e w2 ⟨B, cB, p', rfl, s2, t2, hp'⟩
  have hple := t2.1.le
  have S2 := Lib.hid s2
  have T2 := Lib.hid t2
  have P2 := Lib.hid hp'
  have C1 := Lib.hid t2.1.c1
  clear s2 t2 hp'
  dsimp only at *
  by_cases her : er = 0
  · subst her
    have hpp := P2.out (by trivial)
    subst hpp
    have c1 := C1.out
    have Hcl := Lib.hid (fun W (h : Below w2.heap.size w2 W) => clip_i64 B l.length cB _ W (S2.out.keep h))
    clear HF HK C1
    go_wp2_with fail
    go_quiet ((go_at_call 23; exact Calls.quiet_of_same (Hcl.out _ (below_drewN _ _))))
    go_wp2_with fail
    go_ret3
    exact ⟨B, l.length, by first | rfl | (simp; omega), (S2.out.keep (below_drewN _ _)).clipped, (T2.out.drewN _).old, fun _ => T2.out.1.le⟩
  · have e := HE.out her
    injection e with e1 e2
    injection e2 with e2 e3
    subst e1 e2
    go_wp2_with fail
    go_ret3
    exact run_bad er (Nat.le_of_lt hp) T2.out.old

set_option maxHeartbeats 1600000 in
set_option maxRecDepth 4000 in
theorem run_k2 (A : Option Addr) (n c : Nat) (bs : List Nat) (p : Nat) (sg : Bool) (w : World) (r : RunR) (hs : Sl w A n c (nats .u8 bs)) (h8 : ∀ x ∈ bs, x < 256) (hp : p < n) (hn : n ≤ 1000000000)
    (hk : bs.getD p 0 / 64 = 2) (hf : KdHas 26 A n c bs p sg r) (he0 : r.2.2 ≠ 0 → r = badR r.2.2) :
    Calls Try.prog 19 #[.slice A n c, .int .i64 (p : Int), .bool sg] w fun e w' => RunOut w n p r e w' := by
  have HK := Lib.hid (kind_ok A n c bs p w hs h8 hp hn 2 (by rw [hk]; rfl))
  have HF := Lib.hid (hf _ _ (Rd.new p sg hs h8 hn hp))
  have HE := Lib.hid he0
  clear hk hf he0 hs h8
  obtain ⟨l, k, er⟩ := r
  dsimp only at *
  go_enter Try.func19, Try.ntmps19
  go_wp2_with fail
  refine HK.out.mono ?_
  rintro e w1 ⟨rfl, rfl⟩
  go_wp2_with fail
  refine HF.out.mono ?_
  rintro e w2 ⟨B, cB, p', rfl, s2, t2, hp'⟩
  have hple := t2.1.le
  have S2 := Lib.hid s2
  have T2 := Lib.hid t2
  have P2 := Lib.hid hp'
  have C1 := Lib.hid t2.1.c1
  clear s2 t2 hp'
  dsimp only at *
  by_cases her : er = 0
  · subst her
    have hpp := P2.out (by trivial)
    subst hpp
    have c1 := C1.out
    have Hcl := Lib.hid (fun W (h : Below w2.heap.size w2 W) => clip_i64 B l.length cB _ W (S2.out.keep h))
    clear HF HK C1
    go_wp2_with fail
    go_quiet ((go_at_call 23; exact Calls.quiet_of_same (Hcl.out _ (below_drewN _ _))))
    go_wp2_with fail
    go_ret3
    exact ⟨B, l.length, by first | rfl | (simp; omega), (S2.out.keep (below_drewN _ _)).clipped, (T2.out.drewN _).old, fun _ => T2.out.1.le⟩
  · have e := HE.out her
    injection e with e1 e2
    injection e2 with e2 e3
    subst e1 e2
    go_wp2_with fail
    go_ret3
    exact run_bad er (Nat.le_of_lt hp) T2.out.old

set_option maxHeartbeats 1600000 in
set_option maxRecDepth 4000 in
theorem run_k3 (A : Option Addr) (n c : Nat) (bs : List Nat) (p : Nat) (sg : Bool) (w : World) (r : RunR) (hs : Sl w A n c (nats .u8 bs)) (h8 : ∀ x ∈ bs, x < 256) (hp : p < n) (hn : n ≤ 1000000000)
    (hk : bs.getD p 0 / 64 = 3) (hf : KdHas 27 A n c bs p sg r) (he0 : r.2.2 ≠ 0 → r = badR r.2.2) :
    Calls Try.prog 19 #[.slice A n c, .int .i64 (p : Int), .bool sg] w fun e w' => RunOut w n p r e w' := by
  have HK := Lib.hid (kind_ok A n c bs p w hs h8 hp hn 3 (by rw [hk]; rfl))
  have HF := Lib.hid (hf _ _ (Rd.new p sg hs h8 hn hp))
  have HE := Lib.hid he0
  clear hk hf he0 hs h8
  obtain ⟨l, k, er⟩ := r
  dsimp only at *
  go_enter Try.func19, Try.ntmps19
  go_wp2_with fail
  refine HK.out.mono ?_
  rintro e w1 ⟨rfl, rfl⟩
  go_wp2_with fail
  refine HF.out.mono ?_
  rintro e w2 ⟨B, cB, p', rfl, s2, t2, hp'⟩
  have hple := t2.1.le
  have S2 := Lib.hid s2
  have T2 := Lib.hid t2
  have P2 := Lib.hid hp'
  have C1 := Lib.hid t2.1.c1
  clear s2 t2 hp'
  dsimp only at *
  by_cases her : er = 0
  · subst her
    have hpp := P2.out (by trivial)
    subst hpp
    have c1 := C1.out
    have Hcl := Lib.hid (fun W (h : Below w2.heap.size w2 W) => clip_i64 B l.length cB _ W (S2.out.keep h))
    clear HF HK C1
    go_wp2_with fail
    go_quiet ((go_at_call 23; exact Calls.quiet_of_same (Hcl.out _ (below_drewN _ _))))
    go_wp2_with fail
    go_ret3
    exact ⟨B, l.length, by first | rfl | (simp; omega), (S2.out.keep (below_drewN _ _)).clipped, (T2.out.drewN _).old, fun _ => T2.out.1.le⟩
  · have e := HE.out her
    injection e with e1 e2
    injection e2 with e2 e3
    subst e1 e2
    go_wp2_with fail
    go_ret3
    exact run_bad er (Nat.le_of_lt hp) T2.out.old
set_option maxHeartbeats 1600000 in
theorem run_end (A : Option Addr) (n c : Nat) (bs : List Nat) (sg : Bool) (w : World) (hs : Sl w A n c (nats .u8 bs)) (hn : n ≤ 1000000000) :
    Calls Try.prog 19 #[.slice A n c, .int .i64 (n : Int), .bool sg] w fun e w' => RunOut w n n (badR 3) e w' := by
  have HK := Lib.hid (kind_no A n c bs w hs hn)
  clear hs
  go_enter Try.func19, Try.ntmps19
  go_wp2_with fail
  refine HK.out.mono ?_
  rintro e w1 ⟨rfl, rfl⟩
  go_wp2_with fail
  go_ret3
  exact run_bad 3 (Nat.le_refl _) (Below.refl _ _)
def Bad0 (r : RunR) : Prop := r.2.2 ≠ 0 → r = badR r.2.2
theorem bad_bad (e : Nat) : Bad0 (badR e) := fun _ => rfl
theorem bad_ok (o : Option (List Int)) (k : Nat) : Bad0 (okR o k) := by
  cases o with
  | none => exact bad_bad 2
  | some l => exact fun h => absurd rfl h
theorem bad_short (bs : List Nat) (p : Nat) (sg : Bool) : Bad0 (shortS bs p sg) := by
  unfold shortS
  split
  · exact bad_bad _
  · exact bad_ok _ _
theorem bad_plain (bs : List Nat) (p : Nat) (sg : Bool) : Bad0 (plainS bs p sg) := by
  unfold plainS
  split
  · exact bad_bad _
  · split
    · exact bad_bad _
    · exact bad_ok _ _
theorem bad_patch (bs : List Nat) (p : Nat) (sg : Bool) : Bad0 (patchS bs p sg) := by
  unfold patchS
  dsimp only
  repeat' split
  all_goals first | exact bad_bad _ | exact bad_ok _ _
theorem bad_delta (bs : List Nat) (p : Nat) (sg : Bool) : Bad0 (deltaS bs p sg) := by
  unfold deltaS
  dsimp only
  repeat' split
  all_goals first | exact bad_bad _ | exact bad_ok _ _
/-- Run, at any place in the bytes. -/
theorem run_p (A : Option Addr) (n c : Nat) (bs : List Nat) (p : Nat) (sg : Bool) (w : World) (hs : Sl w A n c (nats .u8 bs)) (h8 : ∀ x ∈ bs, x < 256) (hp : p ≤ n) (hn : n ≤ 1000000000)
    (hpat : KdHas 26 A n c bs p sg (patchS bs p sg)) :
    Calls Try.prog 19 #[.slice A n c, .int .i64 (p : Int), .bool sg] w fun e w' => RunOut w n p (runS bs p sg) e w' := by
  have hlen : bs.length = n := by have := hs.len; rwa [nats_length] at this
  by_cases he : p = n
  · subst he
    rw [runS_end bs sg p hlen]
    exact run_end A p c bs sg w hs hn
  · have hlt : p < n := by omega
    have x8 : bs.getD p 0 < 256 := by rw [getD_eq _ _ (by omega)]; exact h8 _ (List.getElem_mem _)
    unfold runS
    rw [if_neg (by omega), if_neg (by omega)]
    by_cases h0 : bs.getD p 0 / 64 = 0
    · rw [if_pos h0]
      exact run_k0 A n c bs p sg w _ hs h8 hlt hn h0 (fun w g h => rdshort h hlt) (bad_short _ _ _)
    · rw [if_neg h0]
      by_cases h1 : bs.getD p 0 / 64 = 1
      · rw [if_pos h1]
        exact run_k1 A n c bs p sg w _ hs h8 hlt hn h1 (fun w g h => rdplain h) (bad_plain _ _ _)
      · rw [if_neg h1]
        by_cases h2 : bs.getD p 0 / 64 = 2
        · rw [if_pos h2]
          exact run_k2 A n c bs p sg w _ hs h8 hlt hn h2 hpat (bad_patch _ _ _)
        · rw [if_neg h2]
          exact run_k3 A n c bs p sg w _ hs h8 hlt hn (by omega) (fun w g h => rddelta h) (bad_delta _ _ _)
end Go.Proofs.Ytehcbgnoiogncaa
