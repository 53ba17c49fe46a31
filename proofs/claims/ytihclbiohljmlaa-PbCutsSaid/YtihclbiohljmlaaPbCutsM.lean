import Derived.Test.YtihclbiohljmlaaPbPutsM
/-! PbCuts, plain: a number and a text of each, and a front of their bytes. -/
namespace Go.Proofs.Ytihclbiohljmlaa
open Go.RowKit

def cutOf (x : PutIn) : List PutV := if mayF x.num then [.num x.num.toNat x.u, .txt x.num.toNat x.b] else []
def cutsOf (l : List PutIn) : List PutV := l.flatMap cutOf
theorem cut_bytes (x : PutIn) : putsB (cutOf x) = putU x.num x.u ++ putT x.num x.b := by
  unfold cutOf putU putT
  by_cases h : mayF x.num
  · rw [if_pos h, if_pos h, if_pos h]
    show (PutV.num _ _).bytes ++ ((PutV.txt _ _).bytes ++ []) = _
    rw [List.append_nil]
    rfl
  · rw [if_neg h, if_neg h, if_neg h]; rfl
theorem cuts_snoc (l : List PutIn) (x : PutIn) : putsB (cutsOf (l ++ [x])) = putsB (cutsOf l) ++ putU x.num x.u ++ putT x.num x.b := by
  unfold cutsOf
  rw [List.flatMap_append, putsB_append, List.append_assoc, ← cut_bytes]
  simp
theorem cut_ok (x : PutIn) (hi : x.In) (hb : x.b.length ≤ 200) : (∀ p ∈ cutOf x, p.ok ∧ p.bytes.length ≤ 230 ∧ ∀ y ∈ p.bytes, y < 256) ∧ (cutOf x).length ≤ 2 := by
  unfold cutOf
  by_cases h : mayF x.num
  · rw [if_pos h]
    obtain ⟨h1, h2⟩ := h
    refine ⟨fun p hp => ?_, by simp⟩
    simp only [List.mem_cons, List.not_mem_nil, or_false] at hp
    rcases hp with rfl | rfl
    · have h3 := num_len x.num.toNat x.u
      have hok : (PutV.num x.num.toNat x.u).ok := ⟨by omega, by omega, hi.ub⟩
      exact ⟨hok, by omega, putB_byte _ hok trivial⟩
    · have h4 := (varP_length (x.num.toNat * 8 + 2)).2
      have h5 := (varP_length x.b.length).2
      have hok : (PutV.txt x.num.toNat x.b).ok := ⟨by omega, by omega, by omega⟩
      refine ⟨hok, ?_, putB_byte _ hok hi.bb⟩
      show (varP _ ++ varP _ ++ x.b).length ≤ _
      rw [List.length_append, List.length_append]
      omega
  · rw [if_neg h]
    exact ⟨(fun _ h => by cases h), by simp⟩
theorem cutsOf_ok (l : List PutIn) (h : ∀ x ∈ l, x.In ∧ x.b.length ≤ 200) : (∀ p ∈ cutsOf l, p.ok) ∧ (putsB (cutsOf l)).length ≤ 460 * l.length ∧ (cutsOf l).length ≤ 2 * l.length ∧ ∀ y ∈ putsB (cutsOf l), y < 256 := by
  have key : ∀ p ∈ cutsOf l, p.ok ∧ p.bytes.length ≤ 230 ∧ ∀ y ∈ p.bytes, y < 256 := fun p hp => by
    obtain ⟨x, hx, hp⟩ := List.mem_flatMap.1 hp
    exact (cut_ok x (h x hx).1 (h x hx).2).1 p hp
  have h1 := putsB_len _ 230 fun p hp => (key p hp).2.1
  have h2 : (cutsOf l).length ≤ 2 * l.length := by
    clear key h1
    induction l with
    | nil => simp [cutsOf]
    | cons x l ih =>
      have h3 := ih fun y hy => h y (by simp [hy])
      have h4 := (cut_ok x (h x (by simp)).1 (h x (by simp)).2).2
      show (cutOf x ++ cutsOf l).length ≤ 2 * (l.length + 1)
      rw [List.length_append]
      omega
  have h5 := Nat.mul_le_mul_left 230 h2
  exact ⟨fun p hp => (key p hp).1, by omega, h2, putsB_byte _ fun p hp => (key p hp).2.2⟩
end Go.Proofs.Ytihclbiohljmlaa
