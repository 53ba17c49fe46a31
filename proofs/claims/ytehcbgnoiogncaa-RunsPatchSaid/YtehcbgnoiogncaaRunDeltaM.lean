/- Plain words of RunsDelta: numbers by packed steps; two rows that grow side by side. -/
import Derived.Test.YtehcbgnoiogncaaRunLawM
import Derived.Test.YtehcbgnoiogncaaPackRPut
namespace Go.Proofs.Ytehcbgnoiogncaa
open Go.RowKit
open PackMath
set_option linter.unusedVariables false

/-- The number behind j steps. -/
def vT (q v : Int) (S : List Nat) (j : Nat) : Int := v + q * (((S.take j).sum : Nat) : Int)
def psL (q v : Int) (S : List Nat) (i : Nat) : List Int := (List.range (i + 1)).map (vT q v S)
theorem psL_length (q v : Int) (S : List Nat) (i : Nat) : (psL q v S i).length = i + 1 := by simp [psL]
theorem psL_succ (q v : Int) (S : List Nat) (i : Nat) : psL q v S (i + 1) = psL q v S i ++ [vT q v S (i + 1)] := by unfold psL; rw [List.range_succ, List.map_append]; rfl
theorem psL_zero (q v : Int) (S : List Nat) : psL q v S 0 = [v] := by simp [psL, vT]
theorem psL_getD (q v : Int) (S : List Nat) (i : Nat) : (psL q v S i).getD i 0 = vT q v S i := by simp [psL]
theorem take_sum (S : List Nat) (i : Nat) (h : i < S.length) : (S.take (i + 1)).sum = (S.take i).sum + S.getD i 0 := by
  rw [List.take_add_one, List.getElem?_eq_getElem h, List.sum_append, getD_eq _ _ h]
  simp
theorem vT_succ (q v : Int) (S : List Nat) (i : Nat) (h : i < S.length) : vT q v S (i + 1) = vT q v S i + q * ((S.getD i 0 : Nat) : Int) := by
  unfold vT
  rw [take_sum S i h, Int.natCast_add, Int.mul_add]
  omega
theorem sum_le (S : List Nat) (h : ∀ x ∈ S, x < 65536) : S.sum ≤ 65535 * S.length := by
  induction S with
  | nil => simp
  | cons s S ih =>
    have h1 := h s (by simp)
    have h2 := ih fun x hx => h x (by simp [hx])
    rw [List.sum_cons, List.length_cons]
    omega
theorem take_sum_le (S : List Nat) (h : ∀ x ∈ S, x < 65536) (hn : S.length ≤ 511) (i : Nat) : (S.take i).sum ≤ 33488385 := by
  have h1 := sum_le (S.take i) fun x hx => h x (List.mem_of_mem_take hx)
  rw [List.length_take] at h1
  omega
theorem vT_in (q v : Int) (S : List Nat) (i : Nat) (h : ∀ x ∈ S, x < 65536) (hn : S.length ≤ 511) (hq : q = 1 ∨ q = -1) (hv : -1152921504606846976 ≤ v ∧ v ≤ 1152921504606846976) : -1152921504606846976 - 33488385 ≤ vT q v S i ∧ vT q v S i ≤ 1152921504606846976 + 33488385 := by
  have := take_sum_le S h hn i
  unfold vT
  rcases hq with rfl | rfl <;> omega
theorem walk_psL (q v : Int) (S : List Nat) (h : ∀ i, i ≤ S.length → InI (vT q v S i)) : walkD true v (S.map fun (s : Nat) => some (q * (s : Int))) = some (psL q v S S.length) := by
  induction S generalizing v with
  | nil => simp [walkD, psL, vT]
  | cons s S ih =>
    rw [List.map_cons, walkD_cons]
    have h1 := h 1 (by simp)
    have e1 : vT q v (s :: S) 1 = v + q * (s : Int) := by simp [vT]
    rw [e1] at h1
    have hp : putS true v (q * (s : Int)) = some (v + q * (s : Int)) := by
      unfold putS addS
      rw [if_pos h1]
      simp
    have e2 : ∀ j, vT q v (s :: S) (j + 1) = vT q (v + q * (s : Int)) S j := by
      intro j
      unfold vT
      rw [List.take_succ_cons, List.sum_cons, Int.natCast_add, Int.mul_add]
      omega
    rw [hp]
    dsimp only
    rw [ih (v + q * (s : Int)) (fun i hi => by rw [← e2]; exact h (i + 1) (by simp; omega))]
    rw [Option.map_some]
    congr 1
    unfold psL
    conv => rhs; rw [List.length_cons, List.range_succ_eq_map, List.map_cons, List.map_map]
    congr 1
    · simp [vT]
    · exact List.map_congr_left fun j _ => (e2 j).symm
theorem del_psL (q v : Int) (S : List Nat) (hq : q = 1 ∨ q = -1) (hS : ∀ x ∈ S, x < 65536) (hn : 1 ≤ S.length) (h0 : q = -1 → S.getD 0 0 ≠ 0) (h : ∀ i, i ≤ S.length → InI (vT q v S i)) :
    delO true 16 v (q * ((S.getD 0 0 : Nat) : Int)) (S.drop 1) (S.length + 1) = some (psL q v S S.length) := by
  unfold delO
  rw [← walk_psL q v S h]
  congr 1
  unfold dL
  refine List.ext_getElem (by simp) fun j h1 h2 => ?_
  have hj : j < S.length := by simpa using h1
  rw [List.getElem_map, List.getElem_map, List.getElem_range]
  unfold dAt
  by_cases hj1 : 1 ≤ j
  · rw [if_pos ⟨by decide, hj1⟩]
    have e : (S.drop 1).getD (j - 1) 0 = S[j] := by
      rw [List.getD_eq_getElem?_getD, List.getElem?_drop, show 1 + (j - 1) = j from by omega, List.getElem?_eq_getElem hj]
      rfl
    rw [e]
    have hb := hS S[j] (List.getElem_mem hj)
    unfold stepO
    rw [if_neg (by omega)]
    rcases hq with rfl | rfl
    · rw [if_neg (by simp only [decide_eq_true_eq]; omega)]; congr 1; omega
    · have := h0 rfl
      rw [if_pos (by simp only [decide_eq_true_eq]; omega)]; congr 1; omega
  · rw [if_neg (by omega)]
    obtain rfl : j = 0 := by omega
    rw [getD_eq S 0 hj]
def deltaB (q v : Int) (S : List Nat) : List Nat := hdB 3 15 S.length ++ varP (zigS v).toNat ++ varP (zigS (q * ((S.getD 0 0 : Nat) : Int))).toNat ++ putSpec (S.drop 1) 16
theorem step0_in (q : Int) (S : List Nat) (hq : q = 1 ∨ q = -1) (hS : ∀ x ∈ S, x < 65536) (hn : 1 ≤ S.length) : -65535 ≤ q * ((S.getD 0 0 : Nat) : Int) ∧ q * ((S.getD 0 0 : Nat) : Int) ≤ 65535 := by
  have := hS (S.getD 0 0) (by rw [getD_eq _ _ (by omega)]; exact List.getElem_mem _)
  rcases hq with rfl | rfl <;> omega
theorem delta_run (q v : Int) (S : List Nat) (hq : q = 1 ∨ q = -1) (hS : ∀ x ∈ S, x < 65536) (hn : 1 ≤ S.length) (hn2 : S.length ≤ 511) (h0 : q = -1 → S.getD 0 0 ≠ 0) (hv : -1152921504606846976 ≤ v ∧ v ≤ 1152921504606846976) :
    runS (deltaB q v S) 0 true = (psL q v S S.length, (deltaB q v S).length, 0) := by
  have hvI : InI v := by unfold InI; omega
  have hs0 := step0_in q S hq hS hn
  have hsI : InI (q * ((S.getD 0 0 : Nat) : Int)) := by unfold InI; omega
  have z1 := zig_in v hvI
  have z2 := zig_in _ hsI
  obtain ⟨st, hst⟩ : ∃ st, q * ((S.getD 0 0 : Nat) : Int) = st := ⟨_, rfl⟩
  have hdel := del_psL q v S hq hS hn h0 fun i hi => by
    have := vT_in q v S i hS hn2 hq hv
    unfold InI; omega
  unfold deltaB
  rw [hst] at hsI z2 hs0 hdel ⊢
  obtain ⟨B, hB⟩ : ∃ B, B = hdB 3 15 S.length ++ varP (zigS v).toNat ++ varP (zigS st).toNat ++ putSpec (S.drop 1) 16 := ⟨_, rfl⟩
  rw [← hB]
  have hl : B.length = 2 + (varP (zigS v).toNat).length + (varP (zigS st).toNat).length + nbytes ((S.length - 1) * 16) := by
    rw [hB]; simp only [List.length_append, putSpec_len, List.length_drop]; rfl
  have hd : B.drop 2 = varP (zigS v).toNat ++ (varP (zigS st).toNat ++ putSpec (S.drop 1) 16) := by rw [hB]; simp [hdB]
  have hd2 : B.drop (2 + (varP (zigS v).toNat).length) = varP (zigS st).toNat ++ putSpec (S.drop 1) 16 := by
    rw [← List.drop_drop, hd, List.drop_left]
  obtain ⟨g1, g2, g3⟩ := hdB_of B [] 3 15 S.length (varP (zigS v).toNat ++ varP (zigS st).toNat ++ putSpec (S.drop 1) 16) (by rw [hB]; simp) (by decide) (by decide) (by omega)
  rw [List.length_nil] at g1 g2 g3
  have hgs : getSpec B (8 * (2 + (varP (zigS v).toNat).length + (varP (zigS st).toNat).length)) (S.length - 1) 16 = S.drop 1 := by
    have := get_put_at (hdB 3 15 S.length ++ varP (zigS v).toNat ++ varP (zigS st).toNat) (S.drop 1) 16 []
    rw [List.append_nil, ← hB, List.length_drop] at this
    have e : (hdB 3 15 S.length ++ varP (zigS v).toNat ++ varP (zigS st).toNat).length = 2 + (varP (zigS v).toNat).length + (varP (zigS st).toNat).length := by
      simp only [List.length_append]; rfl
    rw [e] at this
    rw [this]
    conv => rhs; rw [← List.map_id (S.drop 1)]
    refine List.map_congr_left fun x hx => ?_
    exact Nat.mod_eq_of_lt (hS x (List.mem_of_mem_drop hx))
  unfold runS
  rw [if_neg (by omega), if_neg (by omega), g3, if_neg (by decide), if_neg (by decide), if_neg (by decide)]
  rw [deltaS_eq B 0 true (by omega) (zigS v).toNat (varP (zigS v).toNat).length (zigS st).toNat (varP (zigS st).toNat).length v
    (by rw [show 0 + 2 = 2 from rfl, hd]; exact varP_read _ _ (by omega)) (by rw [show 0 + 2 + (varP (zigS v).toNat).length = 2 + (varP (zigS v).toNat).length from by omega, hd2]; exact varP_read _ _ (by omega))
    (by unfold numS; rw [if_pos rfl, show (((zigS v).toNat : Nat) : Int) = zigS v from by omega, zag_zig])]
  rw [g1, g2, show dWid 15 = 16 from by decide, show S.length + 1 - 2 = S.length - 1 from by omega, show 0 + 2 + (varP (zigS v).toNat).length + (varP (zigS st).toNat).length = 2 + (varP (zigS v).toNat).length + (varP (zigS st).toNat).length from by omega]
  rw [if_neg (by omega), if_pos (by decide), show (((zigS st).toNat : Nat) : Int) = zigS st from by omega, zag_zig, hgs, hdel, hl]
  rfl
theorem deltaB_byte (q v : Int) (S : List Nat) (hv : InI v) (hs : InI (q * ((S.getD 0 0 : Nat) : Int))) (hn2 : S.length ≤ 511) : ∀ x ∈ deltaB q v S, x < 256 := by
  have z1 := zig_in v hv
  have z2 := zig_in _ hs
  intro x hx
  unfold deltaB at hx
  rcases List.mem_append.1 hx with hx | hx
  · rcases List.mem_append.1 hx with hx | hx
    · rcases List.mem_append.1 hx with hx | hx
      · exact hdB_byte 3 15 _ (by decide) (by decide) (by omega) x hx
      · exact varP_byte _ (by omega) x hx
    · exact varP_byte _ (by omega) x hx
  · exact putSpec_byte _ _ x hx
/-- The steps behind the first one, of the first i. -/
def tailS (S : List Nat) (i : Nat) : List Nat := (S.take i).drop 1
theorem tailS_len (S : List Nat) (i : Nat) (h : i ≤ S.length) : (tailS S i).length = i - 1 := by simp [tailS]; omega
theorem tailS_succ (S : List Nat) (i : Nat) (h : i < S.length) (h1 : 1 ≤ i) : tailS S (i + 1) = tailS S i ++ [S.getD i 0] := by
  unfold tailS
  rw [List.take_add_one, List.getElem?_eq_getElem h, List.drop_append_of_le_length (by rw [List.length_take]; omega), getD_eq _ _ h]
  rfl
theorem tailS_one (S : List Nat) : tailS S 1 = [] := by
  unfold tailS
  cases S <;> simp
theorem tailS_all (S : List Nat) (i : Nat) (h : S.length = i) : tailS S i = S.drop 1 := by unfold tailS; rw [List.take_of_length_le (by omega)]
theorem getDI_eq (l : List Int) (j : Nat) (h : j < l.length) : l.getD j 0 = l[j] := by simp [h]
theorem Sl.of_own' {w : World} {base : Nat} {e : TypeId} {A : Option Addr} {n c : Nat} {xs : List Value} (h : w.ownsRow base e 1 (.slice A n c) n xs) (h1 : ∀ u ∈ xs, u.oneCell' = true) : Sl w A n c xs := by
  obtain ⟨A', c', hv, hs⟩ := Sl.of_own h h1
  injection hv with h1 h2 h3
  subst h1 h3
  exact hs
/-- Two slices that lie in blocks of their own. -/
def Apart (v v2 : Value) : Prop := ∀ k, v.ownBlock = some k → v2.ownBlock ≠ some k
theorem Apart.kept {v v2 : Value} (h : Apart v v2) : v2.ownBlock = none ∨ v2.ownBlock ≠ v.ownBlock := by
  cases h2 : v2.ownBlock with
  | none => exact .inl rfl
  | some k => exact .inr fun e => h k e.symm h2
theorem Apart.symm {v v2 : Value} (h : Apart v v2) : Apart v2 v := fun k h1 h2 => h k h2 h1
theorem Apart.grow {v v2 v' : Value} {w : World} {base : Nat} {e : TypeId} {s n : Nat} {xs : List Value} (h : Apart v v2) (ho : w.ownsRow base e s v2 n xs) (hv : v'.ownBlock = v.ownBlock ∨ v'.ownBlock = some w.heap.size) : Apart v' v2 := by
  intro k h1 h2
  rcases hv with hv | hv
  · exact h k (hv ▸ h1) h2
  · have h3 := (ho.lt k h2).2
    rw [hv] at h1
    injection h1 with h1
    omega
end Go.Proofs.Ytehcbgnoiogncaa
