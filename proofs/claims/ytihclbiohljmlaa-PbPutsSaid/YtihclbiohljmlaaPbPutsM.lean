import Derived.Test.YtihclbiohljmlaaPbFr
import Derived.Test.YtihclbiohljmlaaPbMath3
/-! PbPuts, plain: what fields that are put become. -/
namespace Go.Proofs.Ytihclbiohljmlaa
open Go.RowKit

/-- A field that is to be put, as the law is handed it. -/
structure PutIn where
  kind : Int
  num : Int
  u : Nat
  A : Option Addr
  c : Nat
  b : List Nat

/-- The number that a field of kind 1 holds. -/
def PutIn.z (x : PutIn) : Nat := (zigS (wrap64 (x.u : Int))).toNat
def PutIn.put (x : PutIn) : PutV := if x.kind = 0 then .num x.num.toNat x.u else if x.kind = 1 then .num x.num.toNat x.z else .txt x.num.toNat x.b
def PutIn.bytes (x : PutIn) : List Nat := if x.kind = 0 then putU x.num x.u else if x.kind = 1 then putU x.num x.z else putT x.num x.b
def mayP (x : PutIn) : Bool := decide (mayF x.num)
def putsOf (l : List PutIn) : List PutV := (l.filter mayP).map PutIn.put
structure PutIn.In (x : PutIn) : Prop where
  kb : -9223372036854775808 ≤ x.kind ∧ x.kind ≤ 9223372036854775807
  nb : -9223372036854775808 ≤ x.num ∧ x.num ≤ 9223372036854775807
  ub : x.u < 18446744073709551616
  bb : ∀ y ∈ x.b, y < 256

theorem wrap64_in (u : Int) : InI (wrap64 u) := by
  unfold wrap64 InI
  omega
theorem z_lt (x : PutIn) : x.z < 18446744073709551616 ∧ zigS (wrap64 (x.u : Int)) = (x.z : Int) := by
  have := wrap64_in (x.u : Int)
  unfold PutIn.z
  obtain ⟨a1, a2⟩ := this
  unfold zigS
  split <;> omega
theorem puts_snoc (l : List PutIn) (x : PutIn) : putsB (putsOf (l ++ [x])) = putsB (putsOf l) ++ x.bytes := by
  unfold putsOf
  rw [List.filter_append, List.map_append, putsB_append]
  congr 1
  by_cases h : mayF x.num
  · rw [List.filter_cons_of_pos (by simpa [mayP] using h)]
    show x.put.bytes ++ [] = _
    rw [List.append_nil]
    unfold PutIn.put PutIn.bytes
    split
    · unfold putU; rw [if_pos h]; rfl
    · split
      · unfold putU; rw [if_pos h]; rfl
      · unfold putT; rw [if_pos h]; rfl
  · rw [List.filter_cons_of_neg (by simpa [mayP] using h)]
    show [] = _
    unfold PutIn.bytes
    split
    · unfold putU; rw [if_neg h]
    · split
      · unfold putU; rw [if_neg h]
      · unfold putT; rw [if_neg h]
theorem put_ok (x : PutIn) (h : mayF x.num) (hi : x.In) (hb : x.b.length ≤ 200) : x.put.ok ∧ x.put.bytes.length ≤ 230 ∧ ∀ y ∈ x.put.bytes, y < 256 := by
  obtain ⟨h1, h2⟩ := h
  have hz := (z_lt x).1
  unfold PutIn.put
  split
  · have h3 := num_len x.num.toNat x.u
    have hok : (PutV.num x.num.toNat x.u).ok := ⟨by omega, by omega, hi.ub⟩
    exact ⟨hok, by omega, putB_byte _ hok trivial⟩
  · split
    · have h3 := num_len x.num.toNat x.z
      have hok : (PutV.num x.num.toNat x.z).ok := ⟨by omega, by omega, hz⟩
      exact ⟨hok, by omega, putB_byte _ hok trivial⟩
    · have h4 := (varP_length (x.num.toNat * 8 + 2)).2
      have h5 := (varP_length x.b.length).2
      have hok : (PutV.txt x.num.toNat x.b).ok := ⟨by omega, by omega, by omega⟩
      refine ⟨hok, ?_, putB_byte _ hok hi.bb⟩
      show (varP _ ++ varP _ ++ x.b).length ≤ _
      rw [List.length_append, List.length_append]
      omega
theorem putsOf_ok (l : List PutIn) (h : ∀ x ∈ l, x.In ∧ x.b.length ≤ 200) : (∀ p ∈ putsOf l, p.ok) ∧ (putsB (putsOf l)).length ≤ 230 * l.length ∧ (putsOf l).length ≤ l.length ∧ ∀ y ∈ putsB (putsOf l), y < 256 := by
  have key : ∀ p ∈ putsOf l, p.ok ∧ p.bytes.length ≤ 230 ∧ ∀ y ∈ p.bytes, y < 256 := fun p hp => by
    obtain ⟨x, hx, rfl⟩ := List.mem_map.1 hp
    obtain ⟨hx1, hx2⟩ := List.mem_filter.1 hx
    exact put_ok x (by simpa [mayP] using hx2) (h x hx1).1 (h x hx1).2
  have h1 := putsB_len _ 230 fun p hp => (key p hp).2.1
  have h2 : (putsOf l).length ≤ l.length := by unfold putsOf; rw [List.length_map]; exact List.length_filter_le _ _
  refine ⟨fun p hp => (key p hp).1, Nat.le_trans h1 (Nat.mul_le_mul_left _ h2), h2, putsB_byte _ fun p hp => (key p hp).2.2⟩
theorem putsF_get (ps : List PutV) (at_ i : Nat) (p : PutV) (h : ps[i]? = some p) : ∃ a, (putsF at_ ps)[i]? = some (p.field a) := by
  induction ps generalizing at_ i with
  | nil => simp at h
  | cons q ps ih =>
    cases i with
    | zero =>
      simp only [List.getElem?_cons_zero, Option.some.injEq] at h
      subst h
      exact ⟨at_, rfl⟩
    | succ i =>
      rw [List.getElem?_cons_succ] at h
      obtain ⟨a, ha⟩ := ih (at_ + q.bytes.length) i h
      exact ⟨a, by rw [putsF, List.getElem?_cons_succ]; exact ha⟩
theorem wantF (l : List PutIn) (i : Nat) (x : PutIn) (h : (l.filter mayP)[i]? = some x) : ∃ a, (putsF 0 (putsOf l))[i]? = some (x.put.field a) :=
  putsF_get _ 0 i _ (by unfold putsOf; rw [List.getElem?_map, h]; rfl)
/-- Is it a text? -/
def PutIn.text (x : PutIn) : Bool := decide (x.kind ≠ 0 ∧ x.kind ≠ 1)
theorem put_field (x : PutIn) (h : mayF x.num) (a : Nat) : ((x.put.field a).num : Int) = x.num ∧ ((x.put.field a).wire = if x.text then 2 else 0) ∧ (x.text = true → (x.put.field a).b = x.b) ∧ (x.kind = 0 → (x.put.field a).u = x.u) := by
  obtain ⟨h1, h2⟩ := h
  unfold PutIn.put PutIn.text
  by_cases k0 : x.kind = 0
  · rw [if_pos k0]
    simp [PutV.field, k0]
    omega
  · rw [if_neg k0]
    by_cases k1 : x.kind = 1
    · rw [if_pos k1]
      simp [PutV.field, k1]
      omega
    · rw [if_neg k1]
      simp [PutV.field, k0, k1]
      omega
end Go.Proofs.Ytihclbiohljmlaa
