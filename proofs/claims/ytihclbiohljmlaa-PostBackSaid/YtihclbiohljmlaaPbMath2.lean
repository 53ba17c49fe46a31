import Derived.Test.YtihclbiohljmlaaPbMath
/-! Layer 3, plain laws: a front of fields' bytes; what is asked of fields that were put; no program in sight. -/
namespace Go.Proofs.Ytihclbiohljmlaa

/-- A front of a number's bytes is too short. -/
theorem pv_cut (f i v acc j : Nat) (hf : f + i = 9) (h : v < 2 ^ (64 - 7 * i)) (hj : j < (pv f v).length) : varR ((pv f v).take j) i acc = (0, 0, 3) := by
  induction f generalizing v i acc j with
  | zero =>
    have : j = 0 := by simp [pv] at hj; omega
    subst this
    rfl
  | succ f ih =>
    by_cases hv : v < 128
    · rw [pv_small _ _ hv] at hj ⊢
      have : j = 0 := by simpa using hj
      subst this
      rfl
    · rw [pv_more _ _ hv] at hj ⊢
      cases j with
      | zero => rfl
      | succ j =>
        rw [List.take_succ_cons, varR_more _ _ _ _ (by omega) (by omega)]
        exact ih (i + 1) (v / 128) _ j (by omega) (half7 i v (by omega) h) (by simpa using hj)
theorem varP_cut (v j : Nat) (h : v < 18446744073709551616) (hj : j < (varP v).length) : varR ((varP v).take j) 0 0 = (0, 0, 3) := pv_cut 9 0 v 0 j rfl h hj

theorem take_left (a b : List Nat) (j : Nat) (h : ¬ j < a.length) : (a ++ b).take j = a ++ b.take (j - a.length) := by
  rw [List.take_append, List.take_of_length_le (by omega)]
theorem take_in (a b : List Nat) (j : Nat) (h : j ≤ a.length) : (a ++ b).take j = a.take j := List.take_append_of_le_length h

theorem fldR_cut (p : PutV) (h : p.ok) (j : Nat) (hj : j < p.bytes.length) (at_ : Nat) : (fldR (p.bytes.take j) at_).2.2 = 3 := by
  cases p with
  | num n v =>
    obtain ⟨h1, h2, h3⟩ := h
    show (fldR ((varP (n * 8) ++ varP v).take j) at_).2.2 = 3
    have hl : j < (varP (n * 8)).length + (varP v).length := by simpa [PutV.bytes] using hj
    by_cases hj1 : j < (varP (n * 8)).length
    · rw [take_in _ _ _ (by omega)]
      unfold fldR
      rw [varP_cut _ _ (by omega) hj1]
      simp
    · rw [take_left _ _ _ hj1]
      have r1 := varP_read (n * 8) ((varP v).take (j - (varP (n * 8)).length)) (by omega)
      have r2 := varP_cut v (j - (varP (n * 8)).length) h3 (by omega)
      unfold fldR
      simp only [r1, List.drop_left, r2]
      rw [if_neg (by simp), if_neg (by omega), if_pos (by omega), if_pos (by simp)]
  | txt n l =>
    obtain ⟨h1, h2, h3⟩ := h
    show (fldR ((varP (n * 8 + 2) ++ varP l.length ++ l).take j) at_).2.2 = 3
    have hl : j < (varP (n * 8 + 2)).length + ((varP l.length).length + l.length) := by simpa [PutV.bytes] using hj
    rw [List.append_assoc]
    by_cases hj1 : j < (varP (n * 8 + 2)).length
    · rw [take_in _ _ _ (by omega)]
      unfold fldR
      rw [varP_cut _ _ (by omega) hj1]
      simp
    · rw [take_left _ _ _ hj1]
      have hi : j - (varP (n * 8 + 2)).length < (varP l.length).length + l.length := by omega
      generalize j - (varP (n * 8 + 2)).length = i at hi ⊢
      by_cases hj2 : i < (varP l.length).length
      · rw [take_in _ _ _ (by omega)]
        have r1 := varP_read (n * 8 + 2) ((varP l.length).take i) (by omega)
        have r2 := varP_cut l.length i h3 hj2
        unfold fldR
        simp only [r1, List.drop_left, r2]
        rw [if_neg (by simp), if_neg (by omega), if_neg (by omega), if_pos (by omega), if_pos (by simp)]
      · rw [take_left _ _ _ hj2]
        have hk : i - (varP l.length).length < l.length := by omega
        generalize i - (varP l.length).length = k at hk ⊢
        have r1 := varP_read (n * 8 + 2) (varP l.length ++ l.take k) (by omega)
        have r2 := varP_read l.length (l.take k) h3
        unfold fldR
        simp only [r1, List.drop_left, r2]
        rw [if_neg (by simp), if_neg (by omega), if_neg (by omega), if_pos (by omega), if_neg (by simp), if_pos (by rw [List.length_take]; omega)]

/-- A front of fields' bytes: its fields, or too short. -/
theorem parR_cut (ps : List PutV) (h : ∀ p ∈ ps, p.ok) (j at_ : Nat) (acc : List FieldV) (f : Nat) (hf : ((putsB ps).take j).length ≤ f) (hn : acc.length + ps.length ≤ 4096) :
    parR f ((putsB ps).take j) at_ acc = ([], 3) ∨ ∃ k, k ≤ ps.length ∧ parR f ((putsB ps).take j) at_ acc = (acc ++ (putsF at_ ps).take k, 0) := by
  induction ps generalizing j at_ acc f with
  | nil => exact .inr ⟨0, Nat.zero_le _, by cases f <;> simp [parR, putsB, putsF]⟩
  | cons p ps ih =>
    have hp := put_bytes_pos p
    have hl : (putsB (p :: ps)).length = p.bytes.length + (putsB ps).length := by simp [putsB]
    by_cases h0 : j = 0
    · subst h0
      exact .inr ⟨0, Nat.zero_le _, by cases f <;> simp [parR]⟩
    · rw [List.length_take, hl] at hf
      obtain ⟨g, rfl⟩ : ∃ g, f = g + 1 := ⟨f - 1, by omega⟩
      have hne : (putsB (p :: ps)).take j ≠ [] := fun e => by
        have := congrArg List.length e
        rw [List.length_take, hl, List.length_nil] at this
        omega
      unfold parR
      rw [if_neg hne, if_neg (by simp at hn; omega)]
      by_cases h1 : j < p.bytes.length
      · have e : (putsB (p :: ps)).take j = p.bytes.take j := take_in _ _ _ (by omega)
        rw [e, fldR_cut p (h p (by simp)) j h1, if_pos (by decide)]
        exact .inl rfl
      · have e : (putsB (p :: ps)).take j = p.bytes ++ (putsB ps).take (j - p.bytes.length) := take_left _ _ _ h1
        rw [e, fldR_put p (h p (by simp)), if_neg (by simp)]
        simp only [List.drop_left]
        rcases ih (fun q hq => h q (by simp [hq])) (j - p.bytes.length) (at_ + p.bytes.length) (acc ++ [p.field at_]) g (by rw [List.length_take]; omega) (by simp at hn ⊢; omega) with h2 | ⟨k, hk, h2⟩
        · exact .inl h2
        · exact .inr ⟨k + 1, by simp; omega, by rw [h2]; simp [putsF]⟩
theorem parS_cut (ps : List PutV) (h : ∀ p ∈ ps, p.ok) (j : Nat) (hl : (putsB ps).length ≤ 262144) (hn : ps.length ≤ 4096) : parS ((putsB ps).take j) = ([], 3) ∨ ∃ k, k ≤ ps.length ∧ parS ((putsB ps).take j) = ((putsF 0 ps).take k, 0) := by
  unfold parS
  rw [if_neg (by rw [List.length_take]; omega)]
  have := parR_cut ps h j 0 [] _ (Nat.le_refl _) (by simpa using hn)
  simpa using this

theorem putsF_length (at_ : Nat) (ps : List PutV) : (putsF at_ ps).length = ps.length := by
  induction ps generalizing at_ with
  | nil => rfl
  | cons p ps ih => simp [putsF, ih]

/-! ### What is asked of fields that were put -/
def PutV.isNum (num : Nat) : PutV → Option Nat
  | .num n v => if n = num then some v else none
  | .txt _ _ => none
def PutV.isTxt (num : Nat) : PutV → Option (List Nat)
  | .num _ _ => none
  | .txt n l => if n = num then some l else none

theorem last_filter {α : Type} (p : α → Bool) (l : List α) : l.reverse.find? p = (l.filter p).getLast? := by
  rw [← List.head?_filter, List.filter_reverse, List.head?_reverse]
theorem fm_none {α β : Type} {f : α → Option β} {a : α} {l : List α} (h : f a = none) : (a :: l).filterMap f = l.filterMap f := by rw [List.filterMap_cons, h]
theorem fm_some {α β : Type} {f : α → Option β} {a : α} {b : β} {l : List α} (h : f a = some b) : (a :: l).filterMap f = b :: l.filterMap f := by rw [List.filterMap_cons, h]
theorem fld_nums (num : Nat) (at_ : Nat) (ps : List PutV) : ((putsF at_ ps).filter (fun f => (f.num : Int) = num ∧ f.wire = 0)).map FieldV.u = ps.filterMap (PutV.isNum num) := by
  induction ps generalizing at_ with
  | nil => rfl
  | cons p ps ih =>
    show ((p.field at_ :: putsF (at_ + p.bytes.length) ps).filter _).map FieldV.u = _
    cases p with
    | num n v =>
      by_cases h : n = num
      · subst h
        rw [List.filter_cons_of_pos (by simp [PutV.field]), List.map_cons, ih, fm_some (b := v) (by simp [PutV.isNum])]
        rfl
      · rw [List.filter_cons_of_neg (by simp [PutV.field]; omega), ih, fm_none (by simp [PutV.isNum, h])]
    | txt n l => rw [List.filter_cons_of_neg (by simp [PutV.field]), ih, fm_none rfl]
theorem fld_txts (num : Nat) (at_ : Nat) (ps : List PutV) : ((putsF at_ ps).filter (fun f => (f.num : Int) = num ∧ f.wire = 2)).map FieldV.b = ps.filterMap (PutV.isTxt num) := by
  induction ps generalizing at_ with
  | nil => rfl
  | cons p ps ih =>
    show ((p.field at_ :: putsF (at_ + p.bytes.length) ps).filter _).map FieldV.b = _
    cases p with
    | num n v => rw [List.filter_cons_of_neg (by simp [PutV.field]), ih, fm_none rfl]
    | txt n l =>
      by_cases h : n = num
      · subst h
        rw [List.filter_cons_of_pos (by simp [PutV.field]), List.map_cons, ih, fm_some (b := l) (by simp [PutV.isTxt])]
        rfl
      · rw [List.filter_cons_of_neg (by simp [PutV.field]; omega), ih, fm_none (by simp [PutV.isTxt, h])]
theorem lastF_num (num : Nat) (at_ : Nat) (ps : List PutV) : (lastF (putsF at_ ps) num 0).map FieldV.u = (ps.filterMap (PutV.isNum num)).getLast? := by
  unfold lastF
  rw [last_filter, ← List.getLast?_map, fld_nums]
theorem lastF_txt (num : Nat) (at_ : Nat) (ps : List PutV) : (lastF (putsF at_ ps) num 2).map FieldV.b = (ps.filterMap (PutV.isTxt num)).getLast? := by
  unfold lastF
  rw [last_filter, ← List.getLast?_map, fld_txts]
theorem allF_txt (num : Nat) (at_ : Nat) (ps : List PutV) : allF (putsF at_ ps) num = ps.filterMap (PutV.isTxt num) := fld_txts num at_ ps

theorem varsR_puts (l : List Nat) (h : ∀ v ∈ l, v < 18446744073709551616) (f : Nat) (acc : List Nat) (hf : (l.flatMap varP).length ≤ f) : varsR f (l.flatMap varP) acc = (acc ++ l, 0) := by
  induction l generalizing f acc with
  | nil => cases f <;> simp [varsR]
  | cons v l ih =>
    have hp := (varP_length v).1
    rw [List.flatMap_cons, List.length_append] at hf
    obtain ⟨g, rfl⟩ : ∃ g, f = g + 1 := ⟨f - 1, by omega⟩
    have hne : (v :: l).flatMap varP ≠ [] := fun e => by
      have := congrArg List.length e
      rw [List.flatMap_cons, List.length_append, List.length_nil] at this
      omega
    unfold varsR
    rw [if_neg hne, List.flatMap_cons, varP_read v _ (h v (by simp)), if_neg (by simp)]
    simp only [List.drop_left]
    rw [ih (fun u hu => h u (by simp [hu])) g _ (by omega)]
    simp
theorem uintsR_puts (num : Nat) (l1 l2 : List Nat) (h : ∀ v ∈ l2, v < 18446744073709551616) (at_ : Nat) (acc : List Nat) :
    uintsR num (putsF at_ (l1.map (PutV.num num) ++ [.txt num (l2.flatMap varP)])) acc = (acc ++ (l1 ++ l2), 0) := by
  induction l1 generalizing at_ acc with
  | nil =>
    show uintsR num [⟨num, 2, 0, l2.flatMap varP, at_⟩] acc = _
    have e := varsR_puts l2 h _ acc (Nat.le_refl _)
    unfold uintsR
    rw [if_neg (by simp), if_neg (by simp), if_pos rfl, e, if_neg (by simp)]
    simp [uintsR]
  | cons v l1 ih =>
    show uintsR num (⟨num, 0, v, [], at_⟩ :: putsF _ (l1.map (PutV.num num) ++ [.txt num (l2.flatMap varP)])) acc = _
    unfold uintsR
    rw [if_neg (by simp), if_pos rfl, ih]
    simp
end Go.Proofs.Ytihclbiohljmlaa
