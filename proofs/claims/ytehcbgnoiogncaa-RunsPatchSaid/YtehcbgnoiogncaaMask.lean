/- The frame behind a region that draws its order, written out: the slots that it wrote, and the others as they were. -/
import Derived.Test.YtehcbgnoiogncaaOps6
namespace Go.Proofs.Ytehcbgnoiogncaa
open Go.RowKit
set_option linter.unusedVariables false

def maskV (b : Bool) (x y : Value) : Value := match b with | true => x | false => y
def maskL : List Bool → List Value → (Tmp → Value) → Nat → List Value
  | [], _, _, _ => []
  | _, [], _, _ => []
  | true :: bs, _ :: vs, f, i => f i :: maskL bs vs f (i + 1)
  | false :: bs, v :: vs, f, i => v :: maskL bs vs f (i + 1)
theorem maskL_len (M : List Bool) (l : List Value) (f : Tmp → Value) (i : Nat) (h : M.length = l.length) : (maskL M l f i).length = l.length := by
  induction M generalizing l i with
  | nil => cases l with
    | nil => rfl
    | cons v l => cases h
  | cons b M ih => cases l with
    | nil => cases h
    | cons v l => cases b <;> simp [maskL, ih l (i + 1) (by simpa using h)]
theorem maskL_get (M : List Bool) (l : List Value) (f : Tmp → Value) (i : Nat) (h : M.length = l.length) (j : Nat) (v : Value) (hj : l[j]? = some v) : (maskL M l f i)[j]? = some (maskV (M.getD j false) (f (i + j)) v) := by
  induction M generalizing l i j with
  | nil => cases l with
    | nil => simp at hj
    | cons v l => cases h
  | cons b M ih => cases l with
    | nil => cases h
    | cons u l =>
      cases j with
      | zero =>
        simp only [List.getElem?_cons_zero, Option.some.injEq] at hj
        subst hj
        cases b <;> simp [maskL, maskV]
      | succ j =>
        rw [List.getElem?_cons_succ] at hj
        have e : (maskL (b :: M) (u :: l) f i)[j + 1]? = (maskL M l f (i + 1))[j]? := by cases b <;> simp [maskL]
        rw [e, ih l (i + 1) (by simpa using h) j hj]
        simp [Nat.add_assoc, Nat.add_comm 1 j]
theorem act_mask (a' : Act) (tm : Array Value) (ds : List Deferred) (D : List Tmp) (M : List Bool) (hsz : a'.tmps.size = tm.size) (hd : a'.defers = ds) (hM : M.length = tm.toList.length) (hMD : D.all (fun t => M.getD t false) = true)
    (hU : ∀ t, t ∉ D → a'.tmps.getD t undef = tm.getD t undef) : ∃ f : Tmp → Value, (∀ t, f t = a'.tmps.getD t undef) ∧ a' = ⟨(maskL M tm.toList f 0).toArray, ds⟩ := by
  refine ⟨fun t => a'.tmps.getD t undef, fun _ => rfl, ?_⟩
  obtain ⟨tm', ds'⟩ := a'
  simp only at hd hsz hU ⊢
  subst hd
  congr 1
  refine Array.ext (by
    show tm'.size = (maskL M tm.toList (fun t => tm'.getD t undef) 0).length
    rw [maskL_len _ _ _ _ hM]; simpa using hsz) fun i h1 h2 => ?_
  have hi : i < tm.size := by omega
  have e := maskL_get M tm.toList (fun t => tm'.getD t undef) 0 hM i (tm[i]) (by simp [hi])
  have e2 : (maskL M tm.toList (fun t => tm'.getD t undef) 0).toArray[i] = maskV (M.getD i false) (tm'.getD i undef) tm[i] := by
    rw [List.getElem_toArray]
    rw [List.getElem?_eq_getElem (by simpa using h2)] at e
    simpa using e
  rw [e2]
  cases hb : M.getD i false with
  | true => simp [maskV, h1]
  | false =>
    have hn : i ∉ D := fun hD => by
      have := List.all_eq_true.1 hMD i hD
      rw [hb] at this
      cases this
    have := hU i hn
    simp [h1, hi] at this
    simp [maskV, this]
end Go.Proofs.Ytehcbgnoiogncaa
