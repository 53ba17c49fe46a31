/- rle2.Decode. -/
import Derived.Test.YtehcbgnoiogncaaRunPat2
namespace Go.Proofs.Ytehcbgnoiogncaa
open Go.RowKit
open PackMath
set_option linter.unusedVariables false

def Pos (r : RunR) : Prop := r.2.2 = 0 → 1 ≤ r.1.length
theorem pos_bad (e : Nat) (h : e ≠ 0) : Pos (badR e) := fun h2 => absurd h2 h
theorem pos_ok (o : Option (List Int)) (n : Nat) (h : ∀ l, o = some l → 1 ≤ l.length) : Pos (okR o n) := by
  cases o with
  | none => exact pos_bad 2 (by decide)
  | some l => exact fun _ => h l rfl
theorem hdCount_pos (bs : List Nat) (p : Nat) : 1 ≤ hdCount bs p := by unfold hdCount; omega
theorem layS_len (wd bt : Nat) (l ps : List Nat) (at_ : Nat) (l' : List Nat) (h : layS wd bt l ps at_ = some l') : l'.length = l.length := by
  induction ps generalizing l at_ with
  | nil => unfold layS at h; injection h with h; rw [h]
  | cons p ps ih =>
    unfold layS at h
    split at h
    · cases h
    · split at h
      · exact ih _ _ h
      · split at h
        · cases h
        · rw [ih _ _ h, List.length_set]
theorem baseL_len (sg : Bool) (base : Int) (l : List Nat) (r : List Int) (h : baseL sg base l = some r) : r.length = l.length := by
  induction l generalizing r with
  | nil => simp [baseL] at h; subst h; rfl
  | cons u l ih =>
    rw [baseL_cons] at h
    cases hu : baseU sg base u with
    | none => rw [hu] at h; cases h
    | some s =>
      rw [hu] at h
      cases hl : baseL sg base l with
      | none => rw [hl] at h; cases h
      | some r2 =>
        rw [hl] at h
        injection h with h
        subst h
        rw [List.length_cons, List.length_cons, ih r2 hl]
theorem sumD_pos (sg : Bool) (v : Int) (ds : List Int) (r : List Int) (h : sumD sg v ds = some r) : 1 ≤ r.length := by
  cases ds with
  | nil => simp [sumD] at h; subst h; simp
  | cons d ds =>
    unfold sumD at h
    cases ha : addS v d with
    | none => rw [ha] at h; cases h
    | some s =>
      rw [ha] at h
      dsimp only at h
      split at h
      · cases h
      · cases hs : sumD sg s ds with
        | none => rw [hs] at h; cases h
        | some r2 => rw [hs] at h; injection h with h; subst h; simp
theorem pos_short (bs : List Nat) (p : Nat) (sg : Bool) : Pos (shortS bs p sg) := by
  unfold shortS
  split
  · exact pos_bad _ (by decide)
  · refine pos_ok _ _ fun l hl => ?_
    cases hn : numS sg (bigV ((bs.drop (p + 1)).take (bs.getD p 0 / 8 % 8 + 1)) 0) with
    | none => rw [hn] at hl; cases hl
    | some v => rw [hn] at hl; injection hl with hl; rw [← hl, List.length_replicate]; omega
theorem pos_plain (bs : List Nat) (p : Nat) (sg : Bool) : Pos (plainS bs p sg) := by
  unfold plainS
  split
  · exact pos_bad _ (by decide)
  · split
    · exact pos_bad _ (by decide)
    · refine pos_ok _ _ fun l hl => ?_
      rw [numL_len _ _ _ hl, getSpec_length]
      exact hdCount_pos _ _
theorem pos_patch (bs : List Nat) (p : Nat) (sg : Bool) : Pos (patchS bs p sg) := by
  unfold patchS
  dsimp only
  split
  · exact pos_bad _ (by decide)
  split
  · exact pos_bad _ (by decide)
  split
  · exact pos_bad _ (by decide)
  split
  · exact pos_bad _ (by decide)
  split
  · exact pos_bad _ (by decide)
  split
  · exact pos_bad _ (by decide)
  · rename_i l0 hl0
    refine pos_ok _ _ fun l hl => ?_
    rw [baseL_len _ _ _ _ hl, layS_len _ _ _ _ _ _ hl0, getSpec_length]
    exact hdCount_pos _ _
theorem pos_delta (bs : List Nat) (p : Nat) (sg : Bool) : Pos (deltaS bs p sg) := by
  unfold deltaS
  dsimp only
  split
  · exact pos_bad _ (by decide)
  split
  · exact pos_bad _ (by assumption)
  split
  · exact pos_bad _ (by assumption)
  split
  · exact pos_bad _ (by decide)
  split
  · exact pos_bad _ (by decide)
  split
  · exact pos_ok _ _ fun l hl => by injection hl with hl; rw [← hl]; exact Nat.le_refl _
  split
  · exact pos_bad _ (by decide)
  · exact pos_ok _ _ fun l hl => sumD_pos _ _ _ _ hl
theorem runS_pos (bs : List Nat) (p : Nat) (sg : Bool) : Pos (runS bs p sg) := by
  unfold runS
  split
  · exact pos_bad _ (by decide)
  split
  · exact pos_bad _ (by decide)
  split
  · exact pos_short _ _ _
  split
  · exact pos_plain _ _ _
  split
  · exact pos_patch _ _ _
  · exact pos_delta _ _ _

/-- What Decode answers. -/
def decT (bs : List Nat) (count : Int) (sg : Bool) : List Int × Nat :=
  if count < 0 ∨ 16384 < count then ([], 1) else decR bs count.toNat sg count.toNat 0 []
def DecOut (w : World) (r : List Int × Nat) (e : Ending) (w' : World) : Prop :=
  ∃ B cB, e = .returned (.tuple #[.slice B r.1.length cB, .int .i64 (r.2 : Int)]) ∧ Sl w' B r.1.length cB (ints .i64 r.1) ∧ Below w.heap.size w w'
theorem dec_bad {w w' : World} (er : Nat) (b : Below w.heap.size w w') : DecOut w ([], er) (.returned (.tuple #[.slice none 0 0, .int .i64 (er : Int)])) w' := ⟨none, 0, rfl, Sl.none_ _, b⟩
theorem dec_ok {w w' : World} {l : List Int} {B : Option Addr} {m cB : Nat} (s : Sl w' B m cB (ints .i64 l)) (b : Below w.heap.size w w') : DecOut w (l, 0) (.returned (.tuple #[.slice B m cB, .int .i64 0])) w' := by
  have hm : l.length = m := by
    have := s.len
    rwa [ints_length] at this
  subst hm
  exact ⟨B, cB, rfl, s, b⟩
def slLen : Value → Nat
  | .slice _ n _ => n
  | _ => 0
set_option maxHeartbeats 3200000 in
set_option maxRecDepth 4000 in
theorem dec_in (A : Option Addr) (n c : Nat) (bs : List Nat) (K : Nat) (sg : Bool) (w : World) (hs : Sl w A n c (nats .u8 bs)) (h8 : ∀ x ∈ bs, x < 256) (hn : n ≤ 1000000000) (hK : K ≤ 16384) :
    Calls Try.prog 15 #[.slice A n c, .int .i64 (K : Int), .bool sg] w fun e w' => DecOut w (decR bs K sg K 0 []) e w' := by
  have Hlen : Hid (bs.length = n) := by have := hs.len; rwa [nats_length] at this
  have Hs := Lib.hid hs
  have Hrun := Lib.hid (fun (w' : World) (p : Nat) (b : Below w.heap.size w w') (hp : p ≤ n) => run_all A n c bs p sg w' (hs.keep b) h8 hp hn)
  obtain ⟨R, hR⟩ : ∃ R, decR bs K sg K 0 [] = R := ⟨_, rfl⟩
  rw [hR]
  have HR := Lib.hid hR
  obtain ⟨i0, hi, hz0, hz1, hz2⟩ := info_parts Try.info2
  clear hs h8 hR
  go_enter Try.func15, Try.ntmps15
  go_wp2_with fail
  go_loopw [8, 9] (fun ov pv wr => ∃ (f p : Nat) (acc : List Int) (A' : Option Addr) (len c' : Nat), ov = .slice A' len c' ∧ pv = .int .i64 (p : Int) ∧ p ≤ n ∧ len ≤ K ∧ Hid (R = decR bs K sg f p acc) ∧ K ≤ len + f ∧ Hid (acc.length = len) ∧ Hid (wr.ownsRow w.heap.size 2 1 (.slice A' len c') len (ints .i64 acc)) ∧ Hid (Below w.heap.size w wr)) (fun ov _ _ => K - slLen ov)
  case atStart => exact ⟨K, 0, [], none, 0, 0, rfl, rfl, Nat.zero_le _, Nat.zero_le _, Lib.hid HR.out.symm, by omega, Lib.hid rfl, Lib.hid (World.ownsRow_nil _ _ _ _), Lib.hid (Below.refl _ _)⟩
  case round =>
    obtain ⟨f, p, acc, A', len, c', rfl, rfl, hp, hlen, HRe, hf, Hal, Ho, Hb⟩ := hrel
    by_cases hlt : len < K
    · obtain ⟨f, rfl⟩ : ∃ f', f = f' + 1 := ⟨f - 1, by omega⟩
      have e := HRe.out
      unfold decR at e
      rw [if_pos (by rw [Hal.out]; exact hlt)] at e
      dsimp only at e
      rw [Hal.out] at e
      have hpos := runS_pos bs p sg
      have hcall := Hrun.out wr p Hb.out hp
      generalize runS bs p sg = r at *
      obtain ⟨l, nn, er⟩ := r
      have E := Lib.hid e
      have Hpos := Lib.hid hpos
      have Hcall := Lib.hid hcall
      clear e hpos hcall
      go_wp2_with fail
      refine Hcall.out.mono ?_
      rintro e w2 ⟨B, cB, rfl, s2, b2, hp2⟩
      have S2 := Lib.hid s2
      have B2 := Lib.hid b2
      have P2 := Lib.hid hp2
      clear s2 b2 hp2 Hcall
      dsimp only at *
      by_cases her : er = 0
      · subst her
        have hp3 := P2.out (by trivial)
        have hl1 := Hpos.out (by trivial)
        obtain ⟨ll, hll⟩ : ∃ x, l.length = x := ⟨_, rfl⟩
        rw [hll] at hl1 S2
        have HLL := Lib.hid hll
        by_cases hbig : K < len + ll
        · have e2 := E.out
          rw [if_neg (by intro h; exact h (by trivial)), if_pos (by rw [HLL.out]; exact hbig)] at e2
          have hbi : (K : Int) - (len : Int) < (ll : Int) := by omega
          subst e2
          rw [hll]
          clear hll P2 Hpos
          go_wp2_with fail
          go_ret2
          exact dec_bad 2 (below_trans' Hb.out B2.out)
        · have e2 := E.out
          rw [if_neg (by intro h; exact h (by trivial)), if_neg (by rw [HLL.out]; exact hbig)] at e2
          have hbi : ¬ (K : Int) - (len : Int) < (ll : Int) := by omega
          have E2 := Lib.hid e2
          rw [hll]
          clear e2 hll P2 Hpos E
          have hown2 := World.ownsRow.below Ho.out B2.out
          have Ho2 := Lib.hid hown2
          have hsz : w.heap.size ≤ w2.heap.size := Nat.le_trans Hb.out.size B2.out.size
          clear hown2
          go_wp2_with (at_builtin; refine wpList_append_sl rfl _ _ 25 rfl w.heap.size 2 i0 (.int .i64 0) 8 Try.underlying25 hi hz0 hz1 hz2 rfl _ len _ rfl Ho2.out B ll cB _ rfl S2.out ?c1 ?c2 hsz ?_)
          case c1 => unfold maxLen; omega
          case c2 => omega
          intro v3 w3 ho3 hb3 _ _
          obtain ⟨A3, c3, rfl, s3⟩ := Sl.of_own ho3 (fun u hu => (List.mem_append.1 hu).elim (ints_one _ _ u) (ints_one _ _ u))
          have Ho3 : Hid (w3.ownsRow w.heap.size 2 1 (.slice A3 (len + ll) c3) (len + ll) (ints .i64 (acc ++ l))) := by
            have := ho3
            unfold ints at this ⊢
            rw [List.map_append]; exact this
          have Hb3 := Lib.hid ((below_trans' Hb.out B2.out).trans hb3)
          clear ho3 s3 hb3
          go_wp2_with fail
          exact ⟨⟨f, p + nn, acc ++ l, A3, len + ll, c3, by first | rfl | simp, by go_num, hp3, by omega, E2, by omega, Lib.hid (by rw [List.length_append, Hal.out, HLL.out]), Ho3, Hb3⟩, by simp only [slLen]; omega⟩
      · have e2 := E.out
        rw [if_pos her] at e2
        subst e2
        go_wp2_with fail
        go_ret2
        exact dec_bad er (below_trans' Hb.out B2.out)
    · have hlk : len = K := by omega
      subst hlk
      have e : R = if p < n then ([], 2) else (acc, 0) := by
        rw [HRe.out]
        cases f with
        | zero => unfold decR; rw [if_neg (by rw [Hal.out]; exact hlt), Hlen.out]
        | succ f => unfold decR; rw [if_neg (by rw [Hal.out]; exact hlt), Hlen.out]
      by_cases hpn : p < n
      · rw [if_pos hpn] at e
        subst e
        go_wp2_with fail
        go_ret2
        exact dec_bad 2 Hb.out
      · rw [if_neg hpn] at e
        obtain ⟨A9, c9, hv9, s9⟩ := Sl.of_own Ho.out (ints_one _ _)
        injection hv9 with e1 e2 e3
        subst e1 e3
        have S9 := Lib.hid s9
        have E := Lib.hid e
        clear s9 e
        go_wp2_with fail
        refine (clip_i64 _ _ _ _ _ S9.out).mono ?_
        rintro e w9 ⟨rfl, rfl⟩
        go_wp2_with fail
        go_ret2
        rw [E.out]
        exact dec_ok S9.out.clipped Hb.out
set_option maxHeartbeats 800000 in
theorem dec_arg (A : Option Addr) (n c : Nat) (K : Int) (sg : Bool) (w : World) (hK : K < 0 ∨ 16384 < K) :
    Calls Try.prog 15 #[.slice A n c, .int .i64 K, .bool sg] w fun e w' => DecOut w ([], 1) e w' := by
  go_enter Try.func15, Try.ntmps15
  go_wp2_with fail
  all_goals (go_ret2; exact dec_bad 1 (Below.refl _ _))
theorem decode_p (A : Option Addr) (n c : Nat) (bs : List Nat) (K : Int) (sg : Bool) (w : World) (hs : Sl w A n c (nats .u8 bs)) (h8 : ∀ x ∈ bs, x < 256) (hn : n ≤ 1000000000) :
    Calls Try.prog 15 #[.slice A n c, .int .i64 K, .bool sg] w fun e w' => DecOut w (decT bs K sg) e w' := by
  unfold decT
  by_cases h : K < 0 ∨ 16384 < K
  · rw [if_pos h]; exact dec_arg A n c K sg w h
  · rw [if_neg h]
    have := dec_in A n c bs K.toNat sg w hs h8 hn (by omega)
    rwa [show ((K.toNat : Nat) : Int) = K from by omega] at this
end Go.Proofs.Ytehcbgnoiogncaa
