import Derived.Test.YtihclbiohljmlaaNumsPut
/-! Layer 3, plain words: a field of a wire (fldR), the fields of any bytes (parR), what is asked of fields, and the bytes of fields that are put; no program in sight. -/
namespace Go.Proofs.Ytihclbiohljmlaa

/-- A field: number, wire, the number it holds, its bytes, where it lies. -/
structure FieldV where
  num : Nat
  wire : Nat
  u : Nat
  b : List Nat
  at_ : Nat
deriving DecidableEq

def FieldV.zero : FieldV := ⟨0, 0, 0, [], 0⟩

/-- The number of some bytes, the lowest first. -/
def leS : List Nat → Nat
  | [] => 0
  | x :: l => x + 256 * leS l

/-- The field that the bytes begin with; how many bytes it has; the fault. -/
def fldR (l : List Nat) (at_ : Nat) : FieldV × Nat × Nat :=
  if (varR l 0 0).2.2 ≠ 0 then (FieldV.zero, 0, (varR l 0 0).2.2)
  else if (varR l 0 0).1 / 8 < 1 ∨ 536870911 < (varR l 0 0).1 / 8 then (FieldV.zero, 0, 2)
  else
    let key := (varR l 0 0).1
    let n := (varR l 0 0).2.1
    let r := l.drop n
    if key % 8 = 0 then
      if (varR r 0 0).2.2 ≠ 0 then (FieldV.zero, 0, (varR r 0 0).2.2)
      else (⟨key / 8, 0, (varR r 0 0).1, [], at_⟩, n + (varR r 0 0).2.1, 0)
    else if key % 8 = 2 then
      if (varR r 0 0).2.2 ≠ 0 then (FieldV.zero, 0, (varR r 0 0).2.2)
      else if (r.drop (varR r 0 0).2.1).length < (varR r 0 0).1 then (FieldV.zero, 0, 3)
      else (⟨key / 8, 2, 0, (r.drop (varR r 0 0).2.1).take (varR r 0 0).1, at_⟩, n + (varR r 0 0).2.1 + (varR r 0 0).1, 0)
    else if key % 8 = 1 then
      if r.length < 8 then (FieldV.zero, 0, 3) else (⟨key / 8, 1, leS (r.take 8), [], at_⟩, n + 8, 0)
    else if key % 8 = 5 then
      if r.length < 4 then (FieldV.zero, 0, 3) else (⟨key / 8, 5, leS (r.take 4), [], at_⟩, n + 4, 0)
    else (FieldV.zero, 0, 2)

/-- The fields of some bytes from a place on, behind those that were read; or the first fault. -/
def parR : Nat → List Nat → Nat → List FieldV → List FieldV × Nat
  | 0, _, _, acc => (acc, 0)
  | f + 1, l, at_, acc =>
    if l = [] then (acc, 0)
    else if 4096 ≤ acc.length then ([], 4)
    else if (fldR l at_).2.2 ≠ 0 then ([], (fldR l at_).2.2)
    else parR f (l.drop (fldR l at_).2.1) (at_ + (fldR l at_).2.1) (acc ++ [(fldR l at_).1])

def parS (l : List Nat) : List FieldV × Nat := if 262144 < l.length then ([], 4) else parR l.length l 0 []

/-- What a varint takes is there, and it is a byte at least. -/
theorem varR_size (l : List Nat) (i acc : Nat) (h : (varR l i acc).2.2 = 0) : i + 1 ≤ (varR l i acc).2.1 ∧ (varR l i acc).2.1 ≤ i + l.length := by
  induction l generalizing i acc with
  | nil => rw [varR_nil] at h; simp at h
  | cons c l ih =>
    unfold varR at h ⊢
    split at h
    · simp at h
    · rename_i h9
      rw [if_neg h9]
      split at h
      · rename_i hc
        rw [if_pos hc]
        simp only [List.length_cons]
        omega
      · rename_i hc
        rw [if_neg hc]
        have := ih _ _ h
        simp only [List.length_cons]
        omega

/-- What a field takes is there, and it is a byte at least. -/
theorem fldR_size (l : List Nat) (at_ : Nat) (h : (fldR l at_).2.2 = 0) : 1 ≤ (fldR l at_).2.1 ∧ (fldR l at_).2.1 ≤ l.length := by
  unfold fldR at h ⊢
  by_cases h1 : (varR l 0 0).2.2 = 0
  · have s1 := varR_size l 0 0 h1
    rw [if_neg (by simpa using h1)] at h ⊢
    by_cases h2 : (varR l 0 0).1 / 8 < 1 ∨ 536870911 < (varR l 0 0).1 / 8
    · rw [if_pos h2] at h; simp at h
    · rw [if_neg h2] at h ⊢
      simp only [] at h ⊢
      generalize hr : l.drop (varR l 0 0).2.1 = r at h ⊢
      have hrl : r.length = l.length - (varR l 0 0).2.1 := by rw [← hr]; simp
      by_cases k0 : (varR l 0 0).1 % 8 = 0
      · rw [if_pos k0] at h ⊢
        by_cases h3 : (varR r 0 0).2.2 = 0
        · have s2 := varR_size r 0 0 h3
          rw [if_neg (by simpa using h3)]
          simp only []
          omega
        · rw [if_pos h3] at h; exact absurd h h3
      · rw [if_neg k0] at h ⊢
        by_cases k2 : (varR l 0 0).1 % 8 = 2
        · rw [if_pos k2] at h ⊢
          by_cases h3 : (varR r 0 0).2.2 = 0
          · have s2 := varR_size r 0 0 h3
            rw [if_neg (by simpa using h3)] at h ⊢
            by_cases h4 : (r.drop (varR r 0 0).2.1).length < (varR r 0 0).1
            · rw [if_pos h4] at h; simp at h
            · rw [if_neg h4]
              simp only [List.length_drop] at h4 ⊢
              omega
          · rw [if_pos h3] at h; exact absurd h h3
        · rw [if_neg k2] at h ⊢
          by_cases k1 : (varR l 0 0).1 % 8 = 1
          · rw [if_pos k1] at h ⊢
            by_cases h4 : r.length < 8
            · rw [if_pos h4] at h; simp at h
            · rw [if_neg h4]
              simp only []
              omega
          · rw [if_neg k1] at h ⊢
            by_cases k5 : (varR l 0 0).1 % 8 = 5
            · rw [if_pos k5] at h ⊢
              by_cases h4 : r.length < 4
              · rw [if_pos h4] at h; simp at h
              · rw [if_neg h4]
                simp only []
                omega
            · rw [if_neg k5] at h; simp at h
  · rw [if_pos h1] at h
    exact absurd h h1

/-- More than enough rounds change nothing. -/
theorem parR_fuel (f g : Nat) (l : List Nat) (at_ : Nat) (acc : List FieldV) (hf : l.length ≤ f) (hg : l.length ≤ g) : parR f l at_ acc = parR g l at_ acc := by
  induction f generalizing g l at_ acc with
  | zero =>
    have : l = [] := List.eq_nil_of_length_eq_zero (by omega)
    subst this
    cases g <;> simp [parR]
  | succ f ih =>
    cases g with
    | zero =>
      have : l = [] := List.eq_nil_of_length_eq_zero (by omega)
      subst this
      simp [parR]
    | succ g =>
      unfold parR
      by_cases h0 : l = []
      · rw [if_pos h0, if_pos h0]
      · rw [if_neg h0, if_neg h0]
        by_cases h1 : 4096 ≤ acc.length
        · rw [if_pos h1, if_pos h1]
        · rw [if_neg h1, if_neg h1]
          by_cases h2 : (fldR l at_).2.2 = 0
          · rw [if_neg (by simpa using h2), if_neg (by simpa using h2)]
            have hs := fldR_size l at_ h2
            exact ih g _ _ _ (by simp; omega) (by simp; omega)
          · rw [if_pos h2, if_pos h2]

/-- A field that is put: a number, or bytes. -/
inductive PutV where
  | num (n v : Nat)
  | txt (n : Nat) (l : List Nat)

def PutV.bytes : PutV → List Nat
  | .num n v => varP (n * 8) ++ varP v
  | .txt n l => varP (n * 8 + 2) ++ varP l.length ++ l

def PutV.field (at_ : Nat) : PutV → FieldV
  | .num n v => ⟨n, 0, v, [], at_⟩
  | .txt n l => ⟨n, 2, 0, l, at_⟩

def PutV.ok : PutV → Prop
  | .num n v => 1 ≤ n ∧ n ≤ 536870911 ∧ v < 18446744073709551616
  | .txt n l => 1 ≤ n ∧ n ≤ 536870911 ∧ l.length < 18446744073709551616

theorem fldR_put (p : PutV) (h : p.ok) (rest : List Nat) (at_ : Nat) : fldR (p.bytes ++ rest) at_ = (p.field at_, p.bytes.length, 0) := by
  cases p with
  | num n v =>
    obtain ⟨h1, h2, h3⟩ := h
    have e1 : varR (PutV.bytes (.num n v) ++ rest) 0 0 = (n * 8, (varP (n * 8)).length, 0) := by
      show varR ((varP (n * 8) ++ varP v) ++ rest) 0 0 = _
      rw [List.append_assoc, varP_read _ _ (by omega)]
    have e2 : (PutV.bytes (.num n v) ++ rest).drop (varP (n * 8)).length = varP v ++ rest := by
      show ((varP (n * 8) ++ varP v) ++ rest).drop _ = _
      rw [List.append_assoc, List.drop_left]
    unfold fldR
    simp only [e1, e2, varP_read v rest h3]
    rw [if_neg (by simp), if_neg (by omega), if_pos (by omega), if_neg (by simp)]
    simp [PutV.bytes, PutV.field]
  | txt n l =>
    obtain ⟨h1, h2, h3⟩ := h
    have e1 : varR (PutV.bytes (.txt n l) ++ rest) 0 0 = (n * 8 + 2, (varP (n * 8 + 2)).length, 0) := by
      show varR ((varP (n * 8 + 2) ++ varP l.length ++ l) ++ rest) 0 0 = _
      rw [List.append_assoc, List.append_assoc, varP_read _ _ (by omega)]
    have e2 : (PutV.bytes (.txt n l) ++ rest).drop (varP (n * 8 + 2)).length = varP l.length ++ (l ++ rest) := by
      show ((varP (n * 8 + 2) ++ varP l.length ++ l) ++ rest).drop _ = _
      rw [List.append_assoc, List.append_assoc, List.drop_left]
    unfold fldR
    simp only [e1, e2, varP_read l.length (l ++ rest) h3, List.drop_left]
    rw [if_neg (by simp), if_neg (by omega), if_neg (by omega), if_pos (by omega), if_neg (by simp), if_neg (by simp)]
    simp [PutV.bytes, PutV.field]
    omega

/-- The bytes of fields that are put, and the fields, from a place on. -/
def putsB : List PutV → List Nat
  | [] => []
  | p :: ps => p.bytes ++ putsB ps
def putsF : Nat → List PutV → List FieldV
  | _, [] => []
  | at_, p :: ps => p.field at_ :: putsF (at_ + p.bytes.length) ps

theorem put_bytes_pos (p : PutV) : 1 ≤ p.bytes.length := by
  cases p with
  | num n v =>
    have := (pv_length 9 (n * 8)).1
    simp only [PutV.bytes, List.length_append, varP]
    omega
  | txt n l =>
    have := (pv_length 9 (n * 8 + 2)).1
    simp only [PutV.bytes, List.length_append, varP]
    omega

theorem parR_puts (ps : List PutV) (h : ∀ p ∈ ps, p.ok) (at_ : Nat) (acc : List FieldV) (f : Nat) (hf : (putsB ps).length ≤ f) (hn : acc.length + ps.length ≤ 4096) :
    parR f (putsB ps) at_ acc = (acc ++ putsF at_ ps, 0) := by
  induction ps generalizing at_ acc f with
  | nil => cases f <;> simp [parR, putsB, putsF]
  | cons p ps ih =>
    have hp := put_bytes_pos p
    have hl : (putsB (p :: ps)).length = p.bytes.length + (putsB ps).length := by simp [putsB]
    cases f with
    | zero => omega
    | succ f =>
      have hne : putsB (p :: ps) ≠ [] := fun h0 => by rw [h0] at hl; simp at hl; omega
      have e : fldR (putsB (p :: ps)) at_ = (p.field at_, p.bytes.length, 0) := fldR_put p (h p (by simp)) (putsB ps) at_
      have d : (putsB (p :: ps)).drop p.bytes.length = putsB ps := by simp [putsB]
      unfold parR
      rw [if_neg hne, if_neg (by simp at hn; omega), e, if_neg (by simp)]
      simp only [d]
      rw [ih (fun q hq => h q (by simp [hq])) _ _ _ (by omega) (by simp at hn ⊢; omega)]
      simp [putsF]

theorem parS_puts (ps : List PutV) (h : ∀ p ∈ ps, p.ok) (hl : (putsB ps).length ≤ 262144) (hn : ps.length ≤ 4096) : parS (putsB ps) = (putsF 0 ps, 0) := by
  unfold parS
  rw [if_neg (by omega), parR_puts ps h 0 [] _ (Nat.le_refl _) (by simpa using hn)]
  simp

theorem putsB_append (a b : List PutV) : putsB (a ++ b) = putsB a ++ putsB b := by
  induction a with
  | nil => rfl
  | cons p a ih => simp [putsB, ih]

/-! ### What is asked -/
def lastF (l : List FieldV) (num : Int) (wire : Nat) : Option FieldV := l.reverse.find? (fun f => (f.num : Int) = num ∧ f.wire = wire)
def allF (l : List FieldV) (num : Int) : List (List Nat) := (l.filter (fun f => (f.num : Int) = num ∧ f.wire = 2)).map FieldV.b
/-- Numbers one behind the other, behind those that were read; or the first fault. -/
def varsR : Nat → List Nat → List Nat → List Nat × Nat
  | 0, _, acc => (acc, 0)
  | f + 1, l, acc =>
    if l = [] then (acc, 0)
    else if (varR l 0 0).2.2 ≠ 0 then ([], (varR l 0 0).2.2)
    else varsR f (l.drop (varR l 0 0).2.1) (acc ++ [(varR l 0 0).1])
def uintsR (num : Int) : List FieldV → List Nat → List Nat × Nat
  | [], acc => (acc, 0)
  | f :: l, acc =>
    if (f.num : Int) ≠ num then uintsR num l acc
    else if f.wire = 0 then uintsR num l (acc ++ [f.u])
    else if f.wire = 2 then
      if (varsR f.b.length f.b acc).2 ≠ 0 then ([], (varsR f.b.length f.b acc).2) else uintsR num l (varsR f.b.length f.b acc).1
    else uintsR num l acc
/-- How deep fields lie in one another. -/
def depS : Nat → List Nat → Nat
  | 0, _ => 0
  | m + 1, b => if (parS b).2 ≠ 0 then 0 else ((parS b).1.filter (fun f => f.wire = 2)).foldl (fun n f => max n (1 + depS m f.b)) 0

theorem depS_num (m n v : Nat) (h : (PutV.num n v).ok) (hl : (PutV.num n v).bytes.length ≤ 262144) : depS m (PutV.num n v).bytes = 0 := by
  cases m with
  | zero => rfl
  | succ m =>
    have e : (PutV.num n v).bytes = putsB [.num n v] := by simp [putsB]
    unfold depS
    rw [e, parS_puts _ (fun p hp => by rw [List.mem_singleton] at hp; subst hp; exact h) (by rw [← e]; exact hl) (by simp)]
    simp [putsF, PutV.field]

theorem depS_txt (m n : Nat) (l : List Nat) (h : (PutV.txt n l).ok) (hl : (PutV.txt n l).bytes.length ≤ 262144) : depS (m + 1) (PutV.txt n l).bytes = 1 + depS m l := by
  have e : (PutV.txt n l).bytes = putsB [.txt n l] := by simp [putsB]
  show (if (parS _).2 ≠ 0 then _ else _) = _
  rw [e, parS_puts _ (fun p hp => by rw [List.mem_singleton] at hp; subst hp; exact h) (by rw [← e]; exact hl) (by simp)]
  simp [putsF, PutV.field]
end Go.Proofs.Ytihclbiohljmlaa
