/- rle2's Delta, plain words. -/
import Derived.Test.YtehcbgnoiogncaaRunPlain
namespace Go.Proofs.Ytehcbgnoiogncaa
open PackMath
set_option linter.unusedVariables false

/-- A number, and what comes of it by steps of which one may be none. -/
def walkD (sg : Bool) : Int → List (Option Int) → Option (List Int)
  | v, [] => some [v]
  | v, none :: _ => none
  | v, some d :: l => match putS sg v d with
    | none => none
    | some s => (walkD sg s l).map (v :: ·)
def stepO (neg : Bool) (q : Nat) : Option Int := if 9223372036854775807 < q then none else some (if neg = true then -(q : Int) else (q : Int))
def dAt (w : Nat) (step : Int) (xs : List Nat) (j : Nat) : Option Int := if 0 < w ∧ 1 ≤ j then stepO (decide (step < 0)) (xs.getD (j - 1) 0) else some step
def dL (w : Nat) (step : Int) (xs : List Nat) (k : Nat) : List (Option Int) := (List.range (k - 1)).map (dAt w step xs)
theorem dL_drop (w : Nat) (step : Int) (xs : List Nat) (k i : Nat) (h1 : 1 ≤ i) (h : i < k) : (dL w step xs k).drop (i - 1) = dAt w step xs (i - 1) :: (dL w step xs k).drop (i + 1 - 1) := by
  have hl : i - 1 < (dL w step xs k).length := by simp [dL]; omega
  rw [List.drop_eq_getElem_cons hl, show i - 1 + 1 = i + 1 - 1 from by omega]
  congr 1
  simp [dL]
theorem walkD_some (sg : Bool) (v : Int) (ds : List Int) : walkD sg v (ds.map some) = sumD sg v ds := by
  induction ds generalizing v with
  | nil => rfl
  | cons d ds ih =>
    rw [List.map_cons]
    unfold walkD sumD putS
    cases addS v d with
    | none => rfl
    | some s =>
      dsimp only
      by_cases h : sg = false ∧ s < 0
      · rw [if_pos h, if_pos h]
      · rw [if_neg h, if_neg h]
        dsimp only
        rw [ih]
        cases sumD sg s ds <;> rfl
theorem walkD_none (sg : Bool) (v : Int) (dl : List (Option Int)) (h : none ∈ dl) : walkD sg v dl = none := by
  induction dl generalizing v with
  | nil => cases h
  | cons d dl ih =>
    cases d with
    | none => rfl
    | some d =>
      have h' : none ∈ dl := by
        rcases List.mem_cons.1 h with h | h
        · cases h
        · exact h
      unfold walkD
      cases putS sg v d with
      | none => rfl
      | some s => dsimp only; rw [ih s h']; rfl
theorem stepL_some (neg : Bool) (xs : List Nat) (ds : List Int) (h : stepL neg xs = some ds) : xs.map (stepO neg) = ds.map some := by
  induction xs generalizing ds with
  | nil => simp [stepL] at h; subst h; rfl
  | cons q xs ih =>
    unfold stepL at h
    by_cases hq : 9223372036854775807 < q
    · rw [if_pos hq] at h; cases h
    · rw [if_neg hq] at h
      cases hx : stepL neg xs with
      | none => rw [hx] at h; cases h
      | some r =>
        rw [hx] at h
        injection h with h
        subst h
        rw [List.map_cons, List.map_cons, ih r hx]
        unfold stepO
        rw [if_neg hq]
theorem stepL_none (neg : Bool) (xs : List Nat) (h : stepL neg xs = none) : none ∈ xs.map (stepO neg) := by
  induction xs with
  | nil => cases h
  | cons q xs ih =>
    rw [List.map_cons]
    unfold stepL at h
    by_cases hq : 9223372036854775807 < q
    · unfold stepO
      rw [if_pos hq]
      exact List.mem_cons_self
    · rw [if_neg hq] at h
      cases hx : stepL neg xs with
      | none => exact List.mem_cons_of_mem _ (ih hx)
      | some r => rw [hx] at h; cases h
theorem dL_cons (w : Nat) (step : Int) (xs : List Nat) (K : Nat) (hx : 0 < w → xs.length = K) : dL w step xs (K + 2) = some step :: (if 0 < w then xs.map (stepO (decide (step < 0))) else List.replicate K (some step)) := by
  unfold dL
  rw [show K + 2 - 1 = K + 1 from rfl, List.range_succ_eq_map, List.map_cons, List.map_map, show dAt w step xs 0 = some step from by simp [dAt]]
  congr 1
  by_cases hw : 0 < w
  · rw [if_pos hw]
    have hl := hx hw
    refine List.ext_getElem (by simp [hl]) fun j h1 h2 => ?_
    have h3 : j < xs.length := by simpa using h2
    simp [dAt, hw, h3]
  · rw [if_neg hw]
    refine List.ext_getElem (by simp) fun j h1 h2 => ?_
    simp [dAt, hw]
/-- What the loop comes to. -/
def delO (sg : Bool) (w : Nat) (v step : Int) (xs : List Nat) (k : Nat) : Option (List Int) := walkD sg v (dL w step xs k)
theorem delO_one (sg : Bool) (w : Nat) (v step : Int) (xs : List Nat) (k : Nat) (hk : k < 2) : delO sg w v step xs k = some [v] := by
  unfold delO dL
  rw [show k - 1 = 0 from by omega]
  rfl
theorem delO_two (sg : Bool) (w : Nat) (v step : Int) (xs : List Nat) (k n : Nat) (hk : ¬ k < 2) (hx : 0 < w → xs.length = k - 2) :
    (match (if 0 < w then stepL (decide (step < 0)) xs else some (List.replicate (k - 2) step)) with
      | none => badR 2
      | some ds => okR (sumD sg v (step :: ds)) n) = okR (delO sg w v step xs k) n := by
  obtain ⟨K, rfl⟩ : ∃ K, k = K + 2 := ⟨k - 2, by omega⟩
  rw [show K + 2 - 2 = K from rfl] at *
  unfold delO
  rw [dL_cons w step xs K hx]
  by_cases hw : 0 < w
  · rw [if_pos hw, if_pos hw]
    cases hs : stepL (decide (step < 0)) xs with
    | none =>
      rw [walkD_none]
      · rfl
      · exact List.mem_cons_of_mem _ (stepL_none _ _ hs)
    | some ds =>
      rw [stepL_some _ _ _ hs, ← List.map_cons (f := some), walkD_some]
  · rw [if_neg hw, if_neg hw]
    rw [← List.map_replicate (f := some), ← List.map_cons (f := some), walkD_some]
/-- Delta's spec, with the loop's word. -/
theorem deltaS_eq (bs : List Nat) (p : Nat) (sg : Bool) (hp : ¬ bs.length < p + 2) (a1 a2 b1 b2 : Nat) (v : Int) (ha : varR (bs.drop (p + 2)) 0 0 = (a1, a2, 0)) (hb : varR (bs.drop (p + 2 + a2)) 0 0 = (b1, b2, 0)) (hv : numS sg a1 = some v) :
    deltaS bs p sg = if 0 < dWid (hdCode bs p) ∧ bs.length < p + 2 + a2 + b2 + nbytes ((hdCount bs p - 2) * dWid (hdCode bs p)) then badR 3
      else okR (delO sg (dWid (hdCode bs p)) v (zagS (b1 : Int)) (getSpec bs (8 * (p + 2 + a2 + b2)) (hdCount bs p - 2) (dWid (hdCode bs p))) (hdCount bs p)) (2 + a2 + b2 + (if 0 < dWid (hdCode bs p) then nbytes ((hdCount bs p - 2) * dWid (hdCode bs p)) else 0)) := by
  unfold deltaS
  rw [if_neg hp]
  dsimp only
  rw [ha]
  dsimp only
  rw [hb]
  dsimp only
  rw [if_neg (by decide), if_neg (by decide), hv]
  dsimp only
  by_cases h1 : 0 < dWid (hdCode bs p) ∧ bs.length < p + 2 + a2 + b2 + nbytes ((hdCount bs p - 2) * dWid (hdCode bs p))
  · rw [if_pos h1, if_pos h1]
  · rw [if_neg h1, if_neg h1]
    by_cases hk : hdCount bs p < 2
    · rw [if_pos hk, delO_one _ _ _ _ _ _ hk]
    · rw [if_neg hk]
      exact delO_two _ _ _ _ _ _ _ hk fun _ => getSpec_length _ _ _ _
theorem deltaS_a (bs : List Nat) (p : Nat) (sg : Bool) (hp : ¬ bs.length < p + 2) (a1 a2 a3 : Nat) (ha : varR (bs.drop (p + 2)) 0 0 = (a1, a2, a3)) (h3 : a3 ≠ 0) : deltaS bs p sg = badR a3 := by
  unfold deltaS
  rw [if_neg hp]
  dsimp only
  rw [ha]
  dsimp only
  rw [if_pos h3]
theorem deltaS_b (bs : List Nat) (p : Nat) (sg : Bool) (hp : ¬ bs.length < p + 2) (a1 a2 b1 b2 b3 : Nat) (ha : varR (bs.drop (p + 2)) 0 0 = (a1, a2, 0)) (hb : varR (bs.drop (p + 2 + a2)) 0 0 = (b1, b2, b3)) (h3 : b3 ≠ 0) : deltaS bs p sg = badR b3 := by
  unfold deltaS
  rw [if_neg hp]
  dsimp only
  rw [ha]
  dsimp only
  rw [hb]
  dsimp only
  rw [if_neg (by decide), if_pos h3]
theorem deltaS_v (bs : List Nat) (p : Nat) (sg : Bool) (hp : ¬ bs.length < p + 2) (a1 a2 b1 b2 : Nat) (ha : varR (bs.drop (p + 2)) 0 0 = (a1, a2, 0)) (hb : varR (bs.drop (p + 2 + a2)) 0 0 = (b1, b2, 0)) (hv : numS sg a1 = none) : deltaS bs p sg = badR 2 := by
  unfold deltaS
  rw [if_neg hp]
  dsimp only
  rw [ha]
  dsimp only
  rw [hb]
  dsimp only
  rw [if_neg (by decide), if_neg (by decide), hv]
theorem zag_inI (u : Nat) (h : u < 18446744073709551616) : InI (zagS (u : Int)) := by
  unfold InI zagS
  split <;> omega
theorem numS_in (sg : Bool) (u : Nat) (v : Int) (h : u < 18446744073709551616) (hv : numS sg u = some v) : InI v := by
  unfold numS at hv
  cases sg with
  | true => rw [if_pos rfl] at hv; injection hv with hv; rw [← hv]; exact zag_inI u h
  | false =>
    rw [if_neg (by decide)] at hv
    by_cases hu : u ≤ 9223372036854775807
    · rw [if_pos hu] at hv; injection hv with hv; rw [← hv]; unfold InI; omega
    · rw [if_neg hu] at hv; cases hv
theorem putS_in {sg : Bool} {a b s : Int} (h : putS sg a b = some s) : InI s := by
  unfold putS at h
  cases ha : addS a b with
  | none => rw [ha] at h; cases h
  | some z =>
    rw [ha] at h
    dsimp only at h
    by_cases hz : sg = false ∧ z < 0
    · rw [if_pos hz] at h; cases h
    · rw [if_neg hz] at h; injection h with h; subst h; exact addS_in ha
theorem varR_bd (l : List Nat) (i acc : Nat) (h : acc < 2 ^ (7 * i)) (hi : i ≤ 9) : (varR l i acc).1 < 18446744073709551616 ∧ (varR l i acc).2.1 ≤ 10 ∧ (varR l i acc).2.2 ≤ 4 := by
  induction l generalizing i acc with
  | nil => simp [varR]
  | cons c l ih =>
    by_cases h9 : i = 9 ∧ 1 < c
    · obtain ⟨rfl, h1⟩ := h9
      rw [varR_long _ _ _ h1]; simp
    · have hv := var_or acc c i h hi (by omega)
      by_cases hc : c < 128
      · rw [varR_last _ _ _ _ h9 hc]
        exact ⟨hv.2.1, by simp only; omega, by simp⟩
      · rw [varR_more _ _ _ _ h9 hc]
        exact ih _ _ (hv.2.2 (by omega)) (by omega)
end Go.Proofs.Ytehcbgnoiogncaa
