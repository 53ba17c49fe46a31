/- bytes.Equal, bytes.HasPrefix, post.Find and the reference's Find: what they answer. -/
import Derived.Test.YtihclbiohljmlaaRfAsk
import Derived.Test.YtihclbiohljmlaaPbMath3
import Derived.Test.YtihclbiohljmlaaOps7
import Derived.Test.YtihclbiohljmlaaPbKnown
import Derived.Lib.Bytes
import Derived.Lib.SlBytesConst
namespace Go.Proofs.Ytihclbiohljmlaa
open Go.RowKit
set_option linter.unusedVariables false


structure PostV where
  footer : Nat
  codec : Nat
  chunk : Nat
  meta_ : Nat
deriving DecidableEq
def PostV.zero : PostV := ⟨0, 0, 0, 0⟩
def magicB : List Nat := [79, 82, 67]
/-- What fields tell. -/
def decF (l : List FieldV) : PostV × Nat :=
  if bOf (lastF l 8000 2) ≠ magicB ∨ (lastF l 1 0).isSome = false then (PostV.zero, 2)
  else if 65536 < uOf (lastF l 1 0) ∨ 65536 < uOf (lastF l 5 0) then (PostV.zero, 4)
  else if uOf (lastF l 2 0) ≠ 0 ∧ uOf (lastF l 2 0) ≠ 4 then (PostV.zero, 7)
  else if uOf (lastF l 2 0) = 0 then (⟨uOf (lastF l 1 0), 0, 0, uOf (lastF l 5 0)⟩, 0)
  else if uOf (lastF l 3 0) < 64 ∨ 65536 < uOf (lastF l 3 0) then (PostV.zero, 2)
  else (⟨uOf (lastF l 1 0), 4, uOf (lastF l 3 0), uOf (lastF l 5 0)⟩, 0)
def decS (bs : List Nat) : PostV × Nat := if (parS bs).2 ≠ 0 then (PostV.zero, (parS bs).2) else decF (parS bs).1
/-- A file's end. -/
def findS (bs : List Nat) : List Nat × Nat × Nat :=
  if bs = [] then ([], 0, 3)
  else if bs.length < bs.getD (bs.length - 1) 0 + 4 then ([], 0, 3)
  else if bs.getD (bs.length - 1) 0 = 0 ∨ bs.take 3 ≠ magicB then ([], 0, 2)
  else ((bs.drop (bs.length - 1 - bs.getD (bs.length - 1) 0)).take (bs.getD (bs.length - 1) 0), bs.length - 1 - bs.getD (bs.length - 1) 0, 0)
/-- Is a postscript one that may be? -/
def encOk (f c k m : Int) : Prop := (0 ≤ f ∧ f ≤ 65536) ∧ (0 ≤ m ∧ m ≤ 65536) ∧ (c = 4 → 64 ≤ k ∧ k ≤ 65536) ∧ (c = 0 → k = 0)
instance (f c k m : Int) : Decidable (encOk f c k m) := by unfold encOk; infer_instance
def encP (f c k m : Nat) : List PutV := [.num 1 f, .num 2 c, .num 3 k, .txt 4 [0, 12], .num 5 m, .num 6 1, .txt 8000 magicB]
def encS (f c k m : Int) : List Nat × Nat :=
  if c ≠ 0 ∧ c ≠ 4 then ([], 7) else if ¬ encOk f c k m then ([], 1) else (putsB (encP f.toNat c.toNat k.toNat m.toNat), 0)

theorem strOf_toList (l : List Nat) : (strOf l).toList = l.map UInt8.ofNat := by
  unfold strOf
  simp [strOfNums, List.map_map, ByteArray.toList_eq]
theorem map_u8_inj (a b : List Nat) (ha : ∀ x ∈ a, x < 256) (hb : ∀ x ∈ b, x < 256) (h : a.map UInt8.ofNat = b.map UInt8.ofNat) : a = b := by
  induction a generalizing b with
  | nil => cases b with
    | nil => rfl
    | cons y b => cases h
  | cons x a ih => cases b with
    | nil => cases h
    | cons y b =>
      rw [List.map_cons, List.map_cons] at h
      injection h with h1 h2
      have e := ih b (fun z hz => ha z (by simp [hz])) (fun z hz => hb z (by simp [hz])) h2
      have h3 := congrArg UInt8.toNat h1
      have hx := ha x (by simp)
      have hy := hb y (by simp)
      simp [Nat.mod_eq_of_lt hx, Nat.mod_eq_of_lt hy] at h3
      rw [e, h3]
theorem strOf_inj (a b : List Nat) (ha : ∀ x ∈ a, x < 256) (hb : ∀ x ∈ b, x < 256) (h : strOf a = strOf b) : a = b := by
  refine map_u8_inj a b ha hb ?_
  have h1 := congrArg (fun s : ByteArray => s.data.toList) h
  simp only [strOf, strOfNums_data, List.map_map] at h1
  exact h1
theorem strOf_list_inj (a b : List Nat) (ha : ∀ x ∈ a, x < 256) (hb : ∀ x ∈ b, x < 256) (h : (strOf a).toList = (strOf b).toList) : a = b := by
  refine map_u8_inj a b ha hb ?_
  unfold strOf at h
  rw [Lib.strOfNums_toList, Lib.strOfNums_toList] at h
  unfold Lib.bytesOf at h
  simp only [List.map_map] at h
  exact h

set_option maxHeartbeats 1600000 in
set_option maxRecDepth 4000 in
theorem equal_p (A : Option Addr) (n c : Nat) (a : List Nat) (B : Option Addr) (m cb : Nat) (b : List Nat) (w : World) (ha : Sl w A n c (nats .u8 a)) (hb : Sl w B m cb (nats .u8 b)) (ha8 : ∀ x ∈ a, x < 256) (hb8 : ∀ x ∈ b, x < 256) :
    Calls Try.prog 59 #[.slice A n c, .slice B m cb] w fun e w' => e = .returned (.bool (decide (a = b))) ∧ w = w' := by
  have q1 := run_convert_sl (P := Try.prog) Try.underlying22 Try.underlying5 Try.underlying9 ha
  have q2 := run_convert_sl (P := Try.prog) Try.underlying22 Try.underlying5 Try.underlying9 hb
  have hbb : ((strOf a).toList == (strOf b).toList) = decide (a = b) := by
    by_cases h : a = b
    · subst h; simp
    · rw [decide_eq_false h]
      exact beq_eq_false_iff_ne.2 fun e => h (strOf_list_inj a b ha8 hb8 e)
  have Hbb := Lib.hid hbb
  clear ha hb hbb
  go_enter Try.func59, Try.ntmps59
  go_wp2_with fail
  go_ret
  exact ⟨by rw [← Hbb.out] <;> rfl, rfl⟩

set_option maxHeartbeats 1600000 in
set_option maxRecDepth 4000 in
theorem prefix_p (A : Option Addr) (n c : Nat) (a : List Nat) (B : Option Addr) (m cb : Nat) (b : List Nat) (w : World) (ha : Sl w A n c (nats .u8 a)) (hb : Sl w B m cb (nats .u8 b)) (ha8 : ∀ x ∈ a, x < 256) (hb8 : ∀ x ∈ b, x < 256) :
    Calls Try.prog 56 #[.slice A n c, .slice B m cb] w fun e w' => e = .returned (.bool (decide (a.take m = b))) ∧ w = w' := by
  have hla := ha.len
  have hlb := hb.len
  rw [nats_length] at hla hlb
  have hle := ha.le
  have hmax := ha.max
  have hmle := hb.le
  have hmmax := hb.max
  unfold maxLen at hmax hmmax
  by_cases h : m ≤ n
  · have ht := ha.take m h
    rw [show (nats .u8 a).take m = nats .u8 (a.take m) from by simp [nats]] at ht
    have hq := equal_p A m c (a.take m) B m cb b w ht hb (fun x hx => ha8 x (List.mem_of_mem_take hx)) hb8
    generalize decide (a.take m = b) = r at *
    have Hq := Lib.hid hq
    clear ha hb hla hlb ht hq
    go_enter Try.func56, Try.ntmps56
    go_wp2_with fail
    refine Hq.out.mono ?_
    rintro e w1 ⟨rfl, rfl⟩
    go_wp2_with fail
    go_ret
    exact ⟨rfl, rfl⟩
  · have hf : decide (a.take m = b) = false := decide_eq_false fun e => by
      have := congrArg List.length e
      rw [List.length_take] at this
      omega
    rw [hf]
    clear hf hla hlb
    go_enter Try.func56, Try.ntmps56
    go_wp2_with fail
    go_ret
    exact ⟨rfl, rfl⟩

def FindOut (w : World) (R : List Nat × Nat × Nat) (e : Ending) (w' : World) : Prop :=
  ∃ B cB m, e = .returned (.tuple #[.slice B m cB, .int .i64 (R.2.1 : Int), .int .i64 (R.2.2 : Int)]) ∧ Sl w' B m cB (nats .u8 R.1) ∧ Below w.heap.size w w'
theorem FindOut.bad {w w' : World} {er : Nat} (h : Below w.heap.size w w') : FindOut w ([], 0, er) (.returned (.tuple #[.slice none 0 0, .int .i64 0, .int .i64 (er : Int)])) w' := ⟨none, 0, 0, rfl, Sl.none_ w', h⟩

set_option maxHeartbeats 3200000 in
set_option maxRecDepth 100000 in
theorem find_p (A : Option Addr) (n c : Nat) (bs : List Nat) (w : World) (hb : Sl w A n c (nats .u8 bs)) (hbs : ∀ x ∈ bs, x < 256) (hn : n ≤ 100000) :
    Calls Try.prog 32 #[.slice A n c] w fun e w' => FindOut w (findS bs) e w' := by
  obtain ⟨i0, hi, hz0, hz1, hz2⟩ := info_parts Try.info5
  have hlen := hb.len
  rw [nats_length] at hlen
  have hle := hb.le
  have hmax := hb.max
  unfold maxLen at hmax
  unfold findS
  rw [hlen]
  by_cases h0 : n = 0
  · subst h0
    rw [if_pos (List.eq_nil_of_length_eq_zero hlen)]
    clear hb hlen
    go_enter Try.func32, Try.ntmps32
    go_wp2_with fail
    go_ret3
    exact FindOut.bad (Below.refl _ _)
  · rw [if_neg (fun e => h0 (by rw [← hlen, e]; rfl))]
    obtain ⟨b, off, rfl, hbw, hcell⟩ := hb.at_ (by omega)
    obtain ⟨E, rfl⟩ : ∃ E, n = E + 1 := ⟨n - 1, by omega⟩
    have hcl := hcell E (by omega)
    rw [nats_getD _ _ _ (by omega)] at hcl
    have hlb : bs.getD E 0 < 256 := by rw [PackMath.getD_eq _ _ (by omega)]; exact hbs _ (List.getElem_mem _)
    rw [show E + 1 - 1 = E from rfl]
    have hpre := fun (w' : World) (B : Option Addr) (hk : Below w.heap.size w w') (h : Sl w' B 3 3 (nats .u8 magicB)) => prefix_p _ (E + 1) c bs B 3 3 magicB w' (hb.keep hk) h hbs (by decide)
    have hcut : ∀ L, L ≤ E → Sl w (dropA (some ⟨b, off, none⟩) c (E - L)) L (c - (E - L)) (nats .u8 ((bs.drop (E - L)).take L)) := fun L h => by
      have := hb.cut (E - L) E (by omega) (by omega)
      rw [show E - (E - L) = L from by omega] at this
      rw [show nats .u8 ((bs.drop (E - L)).take L) = ((nats .u8 bs).drop (E - L)).take L from by simp [nats, List.map_drop, List.map_take]]
      exact this
    have hsl : ∀ (w : World) (L : Nat), L ≤ E → (Instr.slice 22 (.slice (some ⟨b, off, none⟩) (E + 1) c) (some (.int .i64 ((E : Int) - (L : Int)))) (some (.int .i64 (E : Int))) none).run Try.prog w = .ok (.slice (dropA (some ⟨b, off, none⟩) c (E - L)) L (c - (E - L))) w := fun w L hL => by
      have := run_slice_lohi (w := w) (P := Try.prog) Try.underlying22 hi hz1 (some ⟨b, off, none⟩) (E + 1) c (E - L) E (by omega) (by omega) hb.le hb.max
      rw [show E - (E - L) = L from by omega, show ((E - L : Nat) : Int) = (E : Int) - (L : Int) from by omega] at this
      exact this
    generalize hL : bs.getD E 0 = L at *
    obtain ⟨r, hr⟩ : ∃ r, decide (bs.take 3 = magicB) = r := ⟨_, rfl⟩
    rw [hr] at hpre
    have Hr := Lib.hid hr
    have Hpre := Lib.hid hpre
    have Hcut := Lib.hid hcut
    have Hsl := Lib.hid hsl
    have Hb := Lib.hid hb
    clear hpre hcut hsl hb hcell hL hlen hr
    by_cases h1 : E + 1 < L + 4
    · rw [if_pos h1]
      go_enter Try.func32, Try.ntmps32
      go_wp2_with fail
      go_ret3
      exact FindOut.bad (Below.refl _ _)
    · rw [if_neg h1]
      by_cases hz : L = 0
      · subst hz
        rw [if_pos (.inl rfl)]
        go_enter Try.func32, Try.ntmps32
        go_wp2_with fail
        go_ret3
        exact FindOut.bad (Below.refl _ _)
      · have hzz : ((L : Int) == 0) = false := beq_eq_false_iff_ne.2 (by omega)
        cases r with
        | false =>
          rw [if_pos (.inr (of_decide_eq_false Hr.out))]
          have kc := fun (w : World) (C : Array Value) (n c : Nat) => Lib.run_convert_bytes_const (P := Try.prog) w 22 5 C n c Try.underlying22 Try.underlying5
          go_enter Try.func32, Try.ntmps32
          go_wp2_with fail
          refine (Hpre.out _ _ (below_new _ _) (Sl.litw w [.int .u8 79, .int .u8 82, .int .u8 67] 3 _ (3, 4) rfl (by decide) (by decide))).mono ?_
          rintro e w1 ⟨rfl, rfl⟩
          go_wp2_with fail
          go_ret3
          exact FindOut.bad (below_new _ _)
        | true =>
          have hmt := of_decide_eq_true Hr.out
          rw [if_neg (by rintro (h | h); exact hz h; exact h hmt)]
          have hLE : L ≤ E := by omega
          have hs9 := Hsl.out (w.alloc (.cells #[.int .u8 79, .int .u8 82, .int .u8 67] 5 (3, 4))) L hLE
          have hc9 := Hcut.out L hLE
          have hes : ((E - L : Nat) : Int) = (E : Int) - (L : Int) := by omega
          generalize (bs.drop (E - L)).take L = R at *
          generalize dropA (some ⟨b, off, none⟩) c (E - L) = A9 at *
          generalize c - (E - L) = c9 at *
          have Hes := Lib.hid hes
          have Hc9 := Lib.hid hc9
          clear hmt hes hc9
          have kc := fun (w : World) (C : Array Value) (n c : Nat) => Lib.run_convert_bytes_const (P := Try.prog) w 22 5 C n c Try.underlying22 Try.underlying5
          go_enter Try.func32, Try.ntmps32
          go_wp2_with fail
          refine (Hpre.out _ _ (below_new _ _) (Sl.litw w [.int .u8 79, .int .u8 82, .int .u8 67] 3 _ (3, 4) rfl (by decide) (by decide))).mono ?_
          rintro e w1 ⟨rfl, rfl⟩
          go_wp2_with fail
          refine (clone_u8 A9 L c9 (nats .u8 R) _ (Hc9.out.keep (below_new _ _)) (by omega)).mono ?_
          rintro e w2 ⟨ov, rfl, hown, hb2⟩
          obtain ⟨B, cB, rfl, sB⟩ := Sl.of_own hown (nats_one _ _)
          have Hb2 := Lib.hid (below_trans' (below_new w (.cells #[.int .u8 79, .int .u8 82, .int .u8 67] 5 (3, 4))) hb2)
          clear hown hb2 hs9
          go_wp2_with fail
          refine (clip_u8 B L cB _ _ sB).mono ?_
          rintro e w3 ⟨rfl, sB3, rfl⟩
          have HsB := Lib.hid sB3
          clear sB sB3
          go_wp2_with fail
          go_ret3
          refine ⟨B, L, L, ?_, HsB.out, Hb2.out⟩
          dsimp only
          rw [Hes.out] <;> rfl
end Go.Proofs.Ytihclbiohljmlaa
