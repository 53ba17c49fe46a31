/- Plain words of the laws of layer 9: bytes that are one run. -/
import Derived.Test.YtehcbgnoiogncaaSameI
namespace Go.Proofs.Ytehcbgnoiogncaa
open PackMath
set_option linter.unusedVariables false

theorem zag_zig (v : Int) : zagS (zigS v) = v := by
  unfold zagS zigS
  split <;> split <;> omega
theorem zig_in (v : Int) (h : InI v) : 0 ≤ zigS v ∧ zigS v ≤ 18446744073709551615 := by
  unfold InI at h
  unfold zigS
  split <;> omega
theorem dec_one (bs : List Nat) (l : List Int) (sg : Bool) (h : runS bs 0 sg = (l, bs.length, 0)) (h1 : 1 ≤ l.length) (h2 : l.length ≤ 16384) : decT bs (l.length : Int) sg = (l, 0) := by
  unfold decT
  rw [if_neg (by omega), Int.toNat_natCast]
  obtain ⟨k, hk⟩ : ∃ k, l.length = k + 1 := ⟨l.length - 1, by omega⟩
  rw [show decR bs l.length sg l.length 0 [] = decR bs l.length sg (k + 1) 0 [] from by rw [← hk]]
  unfold decR
  rw [if_pos (by simp; omega), h]
  dsimp only
  rw [if_neg (by decide), if_neg (by simp), List.nil_append, Nat.zero_add]
  cases k with
  | zero => unfold decR; rw [if_neg (by omega), if_neg (by omega)]
  | succ k => unfold decR; rw [if_neg (by omega), if_neg (by omega)]
/-- Numbers that step alike. -/
def alike (v step : Int) (n : Nat) : List Int := (List.range n).map fun (i : Nat) => v + (i : Int) * step
theorem alike_length (v step : Int) (n : Nat) : (alike v step n).length = n := by simp [alike]
theorem alike_succ (v step : Int) (n : Nat) : alike v step (n + 1) = alike v step n ++ [v + (n : Int) * step] := by simp [alike, List.range_succ]
theorem alike_cons (v step : Int) (n : Nat) : alike v step (n + 1) = v :: alike (v + step) step n := by
  unfold alike
  rw [List.range_succ_eq_map, List.map_cons, List.map_map]
  congr 1
  · simp
  · refine List.map_congr_left fun i _ => ?_
    simp only [Function.comp]
    rw [show ((Nat.succ i : Nat) : Int) = (i : Int) + 1 from by omega, Int.add_mul]
    omega
theorem walk_alike (v step : Int) (j : Nat) (h : ∀ i : Nat, i ≤ j → InI (v + (i : Int) * step)) : walkD true v (List.replicate j (some step)) = some (alike v step (j + 1)) := by
  induction j generalizing v with
  | zero => simp [walkD, alike]
  | succ j ih =>
    rw [List.replicate_succ, walkD_cons]
    have h1 := h 1 (by omega)
    rw [show v + ((1 : Nat) : Int) * step = v + step from by simp] at h1
    have hp : putS true v step = some (v + step) := by
      unfold putS addS
      rw [if_pos h1]
      simp
    rw [hp]
    dsimp only
    rw [ih (v + step) (fun i hi => by
      have := h (i + 1) (by omega)
      rw [show ((i + 1 : Nat) : Int) = (i : Int) + 1 from by omega, Int.add_mul] at this
      rw [show v + step + (i : Int) * step = v + ((i : Int) * step + 1 * step) from by omega]
      exact this)]
    rw [alike_cons v step (j + 1)]
    rfl
theorem del_alike (v step : Int) (xs : List Nat) (n : Nat) (hn : 1 ≤ n) (h : ∀ i : Nat, i < n → InI (v + (i : Int) * step)) : delO true 0 v step xs n = some (alike v step n) := by
  unfold delO
  have e : dL 0 step xs n = List.replicate (n - 1) (some step) := by
    unfold dL
    refine List.ext_getElem (by simp) fun j h1 h2 => ?_
    simp [dAt]
  rw [e, walk_alike v step (n - 1) (fun i hi => h i (by omega)), show n - 1 + 1 = n from by omega]
def alikeB (v step : Int) (n : Nat) : List Nat := [192 + (n - 1) / 256, (n - 1) % 256] ++ varP (zigS v).toNat ++ varP (zigS step).toNat
theorem step_in (v step : Int) (i : Nat) (hi : i < 512) (hv : -1125899906842624 ≤ v ∧ v ≤ 1125899906842624) (hs : -1125899906842624 ≤ step ∧ step ≤ 1125899906842624) : -576460752303423488 - 1125899906842624 ≤ v + (i : Int) * step ∧ v + (i : Int) * step ≤ 576460752303423488 + 1125899906842624 ∧ -576460752303423488 ≤ (i : Int) * step ∧ (i : Int) * step ≤ 576460752303423488 := by
  have h1 : (i : Int) * step ≤ 512 * 1125899906842624 := by
    rcases Int.le_total 0 step with h | h
    · exact Int.mul_le_mul (by omega) hs.2 h (by decide)
    · have := Int.mul_nonneg (show (0 : Int) ≤ (i : Int) from by omega) (show 0 ≤ -step from by omega)
      rw [Int.mul_neg] at this
      omega
  have h2 : (i : Int) * -step ≤ 512 * 1125899906842624 := by
    rcases Int.le_total 0 (-step) with h | h
    · exact Int.mul_le_mul (by omega) (by omega) h (by decide)
    · have := Int.mul_nonneg (show (0 : Int) ≤ (i : Int) from by omega) (show 0 ≤ step from by omega)
      rw [Int.mul_neg]
      omega
  rw [Int.mul_neg] at h2
  omega
theorem run_alike (v step : Int) (n : Nat) (hn : 1 ≤ n) (hn2 : n ≤ 512) (hv : -1125899906842624 ≤ v ∧ v ≤ 1125899906842624) (hs : -1125899906842624 ≤ step ∧ step ≤ 1125899906842624) :
    runS (alikeB v step n) 0 true = (alike v step n, (alikeB v step n).length, 0) := by
  have hvI : InI v := by unfold InI; omega
  have hsI : InI step := by unfold InI; omega
  have z1 := zig_in v hvI
  have z2 := zig_in step hsI
  have hl : (alikeB v step n).length = 2 + (varP (zigS v).toNat).length + (varP (zigS step).toNat).length := by
    simp [alikeB]; omega
  have hd : (alikeB v step n).drop 2 = varP (zigS v).toNat ++ varP (zigS step).toNat := by simp [alikeB]
  have hd2 : (alikeB v step n).drop (2 + (varP (zigS v).toNat).length) = varP (zigS step).toNat ++ [] := by
    rw [← List.drop_drop, hd, List.drop_left, List.append_nil]
  have h0 : (alikeB v step n).getD 0 0 = 192 + (n - 1) / 256 := by simp [alikeB]
  have h1 : (alikeB v step n).getD (0 + 1) 0 = (n - 1) % 256 := by simp [alikeB]
  have hc : hdCode (alikeB v step n) 0 = 0 := by unfold hdCode; rw [h0]; omega
  have hk : hdCount (alikeB v step n) 0 = n := by unfold hdCount; rw [h0, h1]; omega
  unfold runS
  rw [if_neg (by omega), if_neg (by omega), h0, if_neg (by omega), if_neg (by omega), if_neg (by omega)]
  rw [deltaS_eq (alikeB v step n) 0 true (by omega) (zigS v).toNat (varP (zigS v).toNat).length (zigS step).toNat (varP (zigS step).toNat).length v
    (by rw [show 0 + 2 = 2 from rfl, hd]; exact varP_read _ _ (by omega)) (by rw [show 0 + 2 + (varP (zigS v).toNat).length = 2 + (varP (zigS v).toNat).length from by omega, hd2]; exact varP_read _ _ (by omega))
    (by unfold numS; rw [if_pos rfl, show (((zigS v).toNat : Nat) : Int) = zigS v from by omega, zag_zig])]
  rw [hc, hk, show dWid 0 = 0 from rfl, if_neg (by omega), if_neg (by omega), show (((zigS step).toNat : Nat) : Int) = zigS step from by omega, zag_zig]
  rw [del_alike v step _ n hn (fun i hi => by have := step_in v step i (by omega) hv hs; unfold InI; omega), hl]
  rfl
theorem alikeB_byte (v step : Int) (n : Nat) (hn : 1 ≤ n) (hn2 : n ≤ 512) (hv : InI v) (hs : InI step) : ∀ x ∈ alikeB v step n, x < 256 := by
  have z1 := zig_in v hv
  have z2 := zig_in step hs
  intro x hx
  unfold alikeB at hx
  rcases List.mem_append.1 hx with hx | hx
  · rcases List.mem_append.1 hx with hx | hx
    · simp at hx
      omega
    · exact varP_byte _ (by omega) x hx
  · exact varP_byte _ (by omega) x hx
end Go.Proofs.Ytehcbgnoiogncaa
