/- Plain words of RunsPatch: patches by hand. -/
import Derived.Test.YtehcbgnoiogncaaRunDeltaM
import Derived.Test.YtehcbgnoiogncaaRow2
namespace Go.Proofs.Ytehcbgnoiogncaa
open Go.RowKit
open PackMath
set_option linter.unusedVariables false

/-- Where the patches so far lead to. -/
def atS (bt : Nat) (ps : List Nat) : Nat := (ps.map (· / 2 ^ bt)).sum
theorem atS_snoc (bt : Nat) (ps : List Nat) (p : Nat) : atS bt (ps ++ [p]) = atS bt ps + p / 2 ^ bt := by simp [atS]
theorem layS_snoc (wd bt : Nat) (l ps : List Nat) (p a : Nat) (l' : List Nat) (h : layS wd bt l ps a = some l') : layS wd bt l (ps ++ [p]) a = layS wd bt l' [p] (a + atS bt ps) := by
  induction ps generalizing l a with
  | nil =>
    unfold layS at h
    injection h with h
    subst h
    simp [atS]
  | cons q ps ih =>
    have ea : a + q / 2 ^ bt + atS bt ps = a + atS bt (q :: ps) := by simp [atS]; omega
    rw [List.cons_append]
    unfold layS at h ⊢
    split at h
    · cases h
    · rename_i h1
      rw [if_neg h1]
      split at h
      · rename_i h2
        rw [if_pos h2, ih _ _ h, ea]
        rfl
      · rename_i h2
        rw [if_neg h2]
        split at h
        · cases h
        · rename_i h3
          rw [if_neg h3, ih _ _ h, ea]
          rfl
/-- The state behind i patches. -/
structure PtSt (X : List Nat) (n i at_ : Nat) (Y W : List Nat) : Prop where
  lay : layS 8 8 X Y 0 = some W
  at_ : atS 8 Y = at_
  len : Y.length = i
  y11 : ∀ y ∈ Y, y < 2048
  wlen : W.length = n
  w16 : ∀ w ∈ W, w < 65536
theorem PtSt.begin (X : List Nat) (n : Nat) (hn : X.length = n) (h8 : ∀ x ∈ X, x < 256) : PtSt X n 0 0 [] X :=
  ⟨by unfold layS; rfl, rfl, rfl, (fun _ h => by cases h), hn, fun x hx => Nat.lt_trans (h8 x hx) (by decide)⟩
theorem or_lt16 (w p : Nat) (hw : w < 65536) (hp : p < 256) : w ||| p * 256 < 65536 := Nat.or_lt_two_pow (n := 16) hw (by omega)
theorem PtSt.next {X : List Nat} {n i at_ : Nat} {Y W : List Nat} (h : PtSt X n i at_ Y W) (g p : Nat) (hg : g < 8) (hp : p < 256) (hp1 : 1 ≤ p) (ha : at_ + g < n) :
    PtSt X n (i + 1) (at_ + g) (Y ++ [g * 256 + p]) (W.set (at_ + g) (W.getD (at_ + g) 0 ||| p * 256)) := by
  have e1 : (g * 256 + p) / 2 ^ 8 = g := by omega
  have e2 : (g * 256 + p) % 2 ^ 8 = p := by omega
  refine ⟨?_, ?_, ?_, ?_, ?_, ?_⟩
  · rw [layS_snoc _ _ _ _ _ _ _ h.lay, h.at_, Nat.zero_add]
    unfold layS
    rw [e1, e2, if_neg (by rw [h.wlen]; omega), if_neg (by omega), if_neg (by have := Lib.bitLen_le p 8 (by decide) (by omega); omega)]
    unfold layS
    rfl
  · rw [atS_snoc, h.at_, e1]
  · rw [List.length_append, h.len]; rfl
  · intro y hy
    rcases List.mem_append.1 hy with hy | hy
    · exact h.y11 y hy
    · simp at hy; omega
  · rw [List.length_set, h.wlen]
  · intro w hw
    rcases List.mem_or_eq_of_mem_set hw with hw | rfl
    · exact h.w16 w hw
    · refine or_lt16 _ _ ?_ hp
      rw [getD_eq _ _ (by rw [h.wlen]; exact ha)]
      exact h.w16 _ (List.getElem_mem _)
def basV (b : Nat) (neg : Bool) : Int := if neg = true then -(b : Int) else (b : Int)
def basU (b : Nat) (neg : Bool) : Nat := if neg = true then b + 549755813888 else b
def patchB (b : Nat) (neg : Bool) (X Y : List Nat) : List Nat := hdB 2 7 (X.length - 1) ++ [135, 64 + Y.length] ++ bigB 5 (basU b neg) ++ putSpec X 8 ++ putSpec Y 11
theorem basU_lt (b : Nat) (neg : Bool) (hb : b ≤ 4294967295) : basU b neg < 2 ^ 40 := by unfold basU; split <;> omega
theorem base_map (base : Int) (W : List Nat) (hb : -4294967295 ≤ base ∧ base ≤ 4294967295) (h : ∀ w ∈ W, w < 65536) : baseL true base W = some (W.map fun (w : Nat) => base + (w : Int)) := by
  induction W with
  | nil => rfl
  | cons w W ih =>
    have hw := h w (by simp)
    rw [baseL_cons, ih fun x hx => h x (by simp [hx])]
    have e : baseU true base w = some (base + (w : Int)) := by
      unfold baseU putS addS
      rw [if_neg (by omega), if_pos (by unfold InI; omega)]
      simp
    rw [e]
    rfl
theorem basV_in (b : Nat) (neg : Bool) (hb : b ≤ 4294967295) : -4294967295 ≤ basV b neg ∧ basV b neg ≤ 4294967295 := by unfold basV; split <;> omega
theorem baseOf_bas (b : Nat) (neg : Bool) (hb : b ≤ 4294967295) : baseOf (basU b neg) 5 = basV b neg := by
  unfold baseOf basU basV
  rw [show 2 ^ (8 * 5 - 1) = 549755813888 from rfl]
  cases neg with
  | true =>
    rw [if_pos rfl, if_pos rfl, if_pos (Nat.le_add_left _ _), Nat.add_sub_cancel]
  | false =>
    simp only [Bool.false_eq_true, if_false]
    rw [if_neg (by omega)]
theorem map_mod_id (l : List Nat) (k : Nat) (h : ∀ x ∈ l, x < k) : l.map (· % k) = l := by
  conv => rhs; rw [← List.map_id l]
  exact List.map_congr_left fun x hx => Nat.mod_eq_of_lt (h x hx)
theorem patchB_len (b : Nat) (neg : Bool) (X Y : List Nat) : (patchB b neg X Y).length = 9 + nbytes (X.length * 8) + nbytes (Y.length * 11) := by
  unfold patchB
  simp only [List.length_append, putSpec_len, bigB_length]
  simp [hdB]
theorem patchB_byte (b : Nat) (neg : Bool) (X Y : List Nat) (hx : X.length ≤ 512) (hy : Y.length ≤ 31) : ∀ x ∈ patchB b neg X Y, x < 256 := by
  intro x hx'
  unfold patchB at hx'
  rcases List.mem_append.1 hx' with h | h
  · rcases List.mem_append.1 h with h | h
    · rcases List.mem_append.1 h with h | h
      · rcases List.mem_append.1 h with h | h
        · exact hdB_byte 2 7 _ (by decide) (by decide) (by omega) x h
        · simp at h; omega
      · exact bigB_byte _ _ x h
    · exact putSpec_byte _ _ x h
  · exact putSpec_byte _ _ x h
theorem patch_run (b : Nat) (neg : Bool) (X : List Nat) (n i at_ : Nat) (Y W : List Nat) (h : PtSt X n i at_ Y W) (hb : b ≤ 4294967295) (hn : 1 ≤ n) (hn2 : n ≤ 512) (hi : i ≤ 31) (hX : X.length = n) (h8 : ∀ x ∈ X, x < 256) :
    runS (patchB b neg X Y) 0 true = (W.map (fun (w : Nat) => basV b neg + (w : Int)), (patchB b neg X Y).length, 0) := by
  have hlen := patchB_len b neg X Y
  rw [hX, h.len] at hlen
  obtain ⟨B, hB⟩ : ∃ B, patchB b neg X Y = B := ⟨_, rfl⟩
  have hB2 : B = hdB 2 7 (n - 1) ++ [135, 64 + i] ++ bigB 5 (basU b neg) ++ putSpec X 8 ++ putSpec Y 11 := by rw [← hB]; unfold patchB; rw [hX, h.len]
  obtain ⟨g1, g2, g3⟩ := hdB_of B [] 2 7 (n - 1) ([135, 64 + i] ++ bigB 5 (basU b neg) ++ putSpec X 8 ++ putSpec Y 11) (by rw [hB2]; simp) (by decide) (by decide) (by omega)
  rw [List.length_nil] at g1 g2 g3
  have hc : B.getD (0 + 2) 0 = 135 := by rw [hB2]; simp [hdB]
  have hd : B.getD (0 + 3) 0 = 64 + i := by rw [hB2]; simp [hdB]
  have hbig : (B.drop (0 + 4)).take 5 = bigB 5 (basU b neg) := by
    rw [hB2]
    rw [show hdB 2 7 (n - 1) ++ [135, 64 + i] ++ bigB 5 (basU b neg) ++ putSpec X 8 ++ putSpec Y 11 = (hdB 2 7 (n - 1) ++ [135, 64 + i]) ++ (bigB 5 (basU b neg) ++ (putSpec X 8 ++ putSpec Y 11)) from by simp]
    rw [show 0 + 4 = (hdB 2 7 (n - 1) ++ [135, 64 + i]).length from by simp [hdB], List.drop_left]
    rw [List.take_append_of_le_length (by rw [bigB_length]; exact Nat.le_refl _), List.take_of_length_le (by rw [bigB_length]; exact Nat.le_refl _)]
  have hx1 : getSpec B (8 * 9) n 8 = X := by
    have := get_put_at (hdB 2 7 (n - 1) ++ [135, 64 + i] ++ bigB 5 (basU b neg)) X 8 (putSpec Y 11)
    rw [← hB2, hX] at this
    rw [show (hdB 2 7 (n - 1) ++ [135, 64 + i] ++ bigB 5 (basU b neg)).length = 9 from by simp [hdB, bigB_length]] at this
    rw [this]
    exact map_mod_id X _ h8
  have hy1 : getSpec B (8 * (9 + nbytes (n * 8))) i 11 = Y := by
    have := get_put_at (hdB 2 7 (n - 1) ++ [135, 64 + i] ++ bigB 5 (basU b neg) ++ putSpec X 8) Y 11 []
    rw [List.append_nil, ← hB2, h.len] at this
    rw [show (hdB 2 7 (n - 1) ++ [135, 64 + i] ++ bigB 5 (basU b neg) ++ putSpec X 8).length = 9 + nbytes (n * 8) from by rw [List.length_append, putSpec_len, hX]; simp [hdB, bigB_length]] at this
    rw [this]
    exact map_mod_id Y _ h.y11
  rw [hB] at hlen ⊢
  unfold runS
  rw [if_neg (by omega), if_neg (by omega), g3, if_neg (by decide), if_neg (by decide), if_pos rfl]
  rw [patchS_eq B 0 true 135 (64 + i) 8 n 8 i 11 (basV b neg) hc hd (by decide) (by rw [g1]; decide) (by rw [g2]; omega)
    (by rw [show (64 + i) / 32 = 2 from by omega]; decide) (by omega) (by rw [show 135 / 32 + 1 = 5 from rfl, hbig, bigV_bigB, Nat.zero_mul, Nat.zero_add, Nat.mod_eq_of_lt (basU_lt b neg hb), baseOf_bas b neg hb])]
  rw [show (135 / 32 + 1 : Nat) = 5 from rfl, show (64 + i) / 32 + 1 = 3 from by omega]
  rw [if_neg (by omega), if_neg (by decide), if_neg (by omega), if_neg (by omega), if_neg (by omega)]
  rw [show 0 + 4 + 5 = 9 from rfl, hx1, hy1, h.lay]
  dsimp only
  rw [base_map _ _ (basV_in b neg hb) h.w16, hlen]
  unfold okR
  dsimp only
theorem patch_dec (b : Nat) (neg : Bool) (X : List Nat) (n i at_ : Nat) (Y W : List Nat) (h : PtSt X n i at_ Y W) (hb : b ≤ 4294967295) (hn : 1 ≤ n) (hn2 : n ≤ 512) (hi : i ≤ 31) (hX : X.length = n) (h8 : ∀ x ∈ X, x < 256) :
    decT (patchB b neg X Y) (n : Int) true = (W.map (fun (w : Nat) => basV b neg + (w : Int)), 0) := by
  have := dec_one _ _ true (patch_run b neg X n i at_ Y W h hb hn hn2 hi hX h8) (by rw [List.length_map, h.wlen]; exact hn) (by rw [List.length_map, h.wlen]; omega)
  rwa [List.length_map, h.wlen] at this
end Go.Proofs.Ytehcbgnoiogncaa
