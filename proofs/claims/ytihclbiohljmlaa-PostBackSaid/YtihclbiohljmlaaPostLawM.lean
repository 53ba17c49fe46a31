import Derived.Test.YtihclbiohljmlaaPostKnown
/-! Layer 20, plain laws: what fields that are put tell as a postscript; there and back; a file's end. -/
namespace Go.Proofs.Ytihclbiohljmlaa
open Go.RowKit
set_option linter.unusedVariables false

theorem decS_puts (ps : List PutV) (h : ∀ p ∈ ps, p.ok) (hl : (putsB ps).length ≤ 262144) (hn : ps.length ≤ 4096) : decS (putsB ps) = decF (putsF 0 ps) := by
  unfold decS
  rw [parS_puts ps h hl hn, if_neg (by simp)]
theorem uOf_num (num at_ : Nat) (ps : List PutV) : uOf (lastF (putsF at_ ps) (num : Int) 0) = (ps.filterMap (PutV.isNum num)).getLast?.getD 0 := by
  unfold uOf; rw [lastF_num]
theorem some_num (num at_ : Nat) (ps : List PutV) : (lastF (putsF at_ ps) (num : Int) 0).isSome = (ps.filterMap (PutV.isNum num)).getLast?.isSome := by
  rw [← lastF_num num at_ ps, Option.isSome_map]
theorem bOf_txt (num at_ : Nat) (ps : List PutV) : bOf (lastF (putsF at_ ps) (num : Int) 2) = (ps.filterMap (PutV.isTxt num)).getLast?.getD [] := by
  unfold bOf; rw [lastF_txt]

theorem enc_ok (f c k m : Nat) (hf : f ≤ 65536) (hc : c ≤ 4) (hk : k ≤ 65536) (hm : m ≤ 65536) : (∀ p ∈ encP f c k m, p.ok ∧ p.bytes.length ≤ 24 ∧ ∀ y ∈ p.bytes, y < 256) := by
  intro p hp
  have num : ∀ n v, 1 ≤ n → n ≤ 536870911 → v ≤ 65536 → (PutV.num n v).ok ∧ (PutV.num n v).bytes.length ≤ 24 ∧ ∀ y ∈ (PutV.num n v).bytes, y < 256 := fun n v h1 h2 h3 => by
    have hok : (PutV.num n v).ok := ⟨h1, h2, by omega⟩
    exact ⟨hok, by have := num_len n v; omega, putB_byte _ hok trivial⟩
  have txt : ∀ n (l : List Nat), 1 ≤ n → n ≤ 536870911 → l.length ≤ 4 → (∀ y ∈ l, y < 256) → (PutV.txt n l).ok ∧ (PutV.txt n l).bytes.length ≤ 24 ∧ ∀ y ∈ (PutV.txt n l).bytes, y < 256 := fun n l h1 h2 h3 h4 => by
    have hok : (PutV.txt n l).ok := ⟨h1, h2, by omega⟩
    refine ⟨hok, ?_, putB_byte _ hok h4⟩
    have a := (varP_length (n * 8 + 2)).2
    have b := (varP_length l.length).2
    show (varP _ ++ varP _ ++ l).length ≤ _
    rw [List.length_append, List.length_append]
    omega
  simp only [encP, List.mem_cons, List.not_mem_nil, or_false] at hp
  rcases hp with rfl | rfl | rfl | rfl | rfl | rfl | rfl
  · exact num _ _ (by omega) (by omega) hf
  · exact num _ _ (by omega) (by omega) (by omega)
  · exact num _ _ (by omega) (by omega) hk
  · exact txt _ _ (by omega) (by omega) (by decide) (by decide)
  · exact num _ _ (by omega) (by omega) hm
  · exact num _ _ (by omega) (by omega) (by omega)
  · exact txt _ _ (by omega) (by omega) (by decide) (by decide)
theorem enc_facts (f c k m : Nat) (hf : f ≤ 65536) (hc : c ≤ 4) (hk : k ≤ 65536) (hm : m ≤ 65536) : (putsB (encP f c k m)).length < 200 ∧ 0 < (putsB (encP f c k m)).length ∧ ∀ y ∈ putsB (encP f c k m), y < 256 := by
  have h := enc_ok f c k m hf hc hk hm
  have h1 := putsB_len _ 24 fun p hp => (h p hp).2.1
  have h2 : (encP f c k m).length = 7 := rfl
  rw [h2] at h1
  have h3 := put_bytes_pos (.num 1 f)
  refine ⟨by omega, ?_, putsB_byte _ fun p hp => (h p hp).2.2⟩
  show 0 < ((PutV.num 1 f).bytes ++ _).length
  rw [List.length_append]
  omega
theorem dec_enc (f c k m : Nat) (hc : c = 0 ∨ c = 4) (hf : f ≤ 65536) (hm : m ≤ 65536) (hk4 : c = 4 → 64 ≤ k ∧ k ≤ 65536) (hk0 : c = 0 → k = 0) : decS (putsB (encP f c k m)) = (⟨f, c, k, m⟩, 0) := by
  have hk : k ≤ 65536 := by rcases hc with h | h; have := hk0 h; omega; exact (hk4 h).2
  have h := enc_ok f c k m hf (by omega) hk hm
  have hl := (enc_facts f c k m hf (by omega) hk hm).1
  rw [decS_puts _ (fun p hp => (h p hp).1) (by omega) (show 7 ≤ 4096 by decide)]
  have u1 : uOf (lastF (putsF 0 (encP f c k m)) 1 0) = f := by rw [show (1 : Int) = ((1 : Nat) : Int) from rfl, uOf_num]; rfl
  have u2 : uOf (lastF (putsF 0 (encP f c k m)) 2 0) = c := by rw [show (2 : Int) = ((2 : Nat) : Int) from rfl, uOf_num]; rfl
  have u3 : uOf (lastF (putsF 0 (encP f c k m)) 3 0) = k := by rw [show (3 : Int) = ((3 : Nat) : Int) from rfl, uOf_num]; rfl
  have u5 : uOf (lastF (putsF 0 (encP f c k m)) 5 0) = m := by rw [show (5 : Int) = ((5 : Nat) : Int) from rfl, uOf_num]; rfl
  have i1 : (lastF (putsF 0 (encP f c k m)) 1 0).isSome = true := by rw [show (1 : Int) = ((1 : Nat) : Int) from rfl, some_num]; rfl
  have t8 : bOf (lastF (putsF 0 (encP f c k m)) 8000 2) = magicB := by rw [show (8000 : Int) = ((8000 : Nat) : Int) from rfl, bOf_txt]; rfl
  unfold decF
  rw [u1, u2, u3, u5, i1, t8, if_neg (by simp), if_neg (by omega), if_neg (by omega)]
  rcases hc with h0 | h4
  · have := hk0 h0
    subst h0 this
    rw [if_pos rfl]
  · have := hk4 h4
    subst h4
    rw [if_neg (by decide), if_neg (by omega)]
theorem find_all (file b : List Nat) (h1 : 0 < b.length) : findS (magicB ++ file ++ b ++ [b.length]) = (b, 3 + file.length, 0) := by
  have hm : magicB.length = 3 := rfl
  have hlen : (magicB ++ file ++ b ++ [b.length]).length = 3 + file.length + b.length + 1 := by simp [hm]; omega
  have hlast : (magicB ++ file ++ b ++ [b.length]).getD (3 + file.length + b.length) 0 = b.length := by
    rw [List.getD_eq_getElem?_getD, List.getElem?_append_right (by simp [hm]; omega)]
    have e : 3 + file.length + b.length - (magicB ++ file ++ b).length = 0 := by simp [hm]; omega
    rw [e]
    rfl
  unfold findS
  rw [hlen, show 3 + file.length + b.length + 1 - 1 = 3 + file.length + b.length from by omega, hlast, if_neg (by simp), if_neg (by omega), if_neg ?_]
  · rw [show 3 + file.length + b.length - b.length = (magicB ++ file).length from by rw [List.length_append, hm]; omega]
    rw [List.append_assoc (magicB ++ file) b, List.drop_left, List.take_left, List.length_append, hm]
  · rintro (h | h)
    · omega
    · exact h (by rw [List.append_assoc, List.append_assoc]; exact List.take_left (l₁ := magicB))

/-- PostFields' fields. -/
def fieldP (again : Bool) (footer chunk num v : Nat) : List PutV := (.txt 8000 magicB :: (if again = true then [.num 1 7, .num 3 5] else [])) ++ [.num num v, .num 3 chunk, .num 2 4, .num 1 footer]
theorem field_facts (again : Bool) (footer chunk num v : Nat) (hn : 1 ≤ num ∧ num ≤ 268435456) (hv : v < 18446744073709551616) (hf : footer ≤ 65535) (hc : chunk ≤ 65535) : (∀ p ∈ fieldP again footer chunk num v, p.ok ∧ p.bytes.length ≤ 24 ∧ ∀ y ∈ p.bytes, y < 256) ∧ (fieldP again footer chunk num v).length ≤ 7 := by
  have hnum : ∀ n v, 1 ≤ n → n ≤ 536870911 → v < 18446744073709551616 → (PutV.num n v).ok ∧ (PutV.num n v).bytes.length ≤ 24 ∧ ∀ y ∈ (PutV.num n v).bytes, y < 256 := fun n v h1 h2 h3 => by
    have hok : (PutV.num n v).ok := ⟨h1, h2, by omega⟩
    exact ⟨hok, by have := num_len n v; omega, putB_byte _ hok trivial⟩
  refine ⟨fun p hp => ?_, by unfold fieldP; split <;> simp⟩
  unfold fieldP at hp
  rcases List.mem_append.1 hp with hp | hp
  · rcases List.mem_cons.1 hp with rfl | hp
    · have hok : (PutV.txt 8000 magicB).ok := ⟨by omega, by omega, by decide⟩
      exact ⟨hok, by decide, by decide⟩
    · split at hp
      · simp only [List.mem_cons, List.not_mem_nil, or_false] at hp
        rcases hp with rfl | rfl
        · exact hnum _ _ (by omega) (by omega) (by omega)
        · exact hnum _ _ (by omega) (by omega) (by omega)
      · cases hp
  · simp only [List.mem_cons, List.not_mem_nil, or_false] at hp
    rcases hp with rfl | rfl | rfl | rfl
    · exact hnum _ _ (by omega) (by omega) hv
    · exact hnum _ _ (by omega) (by omega) (by omega)
    · exact hnum _ _ (by omega) (by omega) (by omega)
    · exact hnum _ _ (by omega) (by omega) (by omega)
theorem field_fm (again : Bool) (footer chunk num v q : Nat) (h : num ≠ q) : (fieldP again footer chunk num v).filterMap (PutV.isNum q) = (if again = true then [PutV.num 1 7, .num 3 5] else []).filterMap (PutV.isNum q) ++ [PutV.num 3 chunk, .num 2 4, .num 1 footer].filterMap (PutV.isNum q) := by
  unfold fieldP
  rw [List.filterMap_append, fm_none (f := PutV.isNum q) rfl, fm_none (a := PutV.num num v) (show (if num = q then some v else none) = none from if_neg h)]
theorem field_dec (again : Bool) (footer chunk num v : Nat) (hn : 1 ≤ num ∧ num ≤ 268435456) (h1 : num ≠ 1) (h2 : num ≠ 2) (h3 : num ≠ 3) (h5 : num ≠ 5) (h8 : num ≠ 8000) (hv : v < 18446744073709551616) (hf : footer ≤ 65535) (hc : chunk ≤ 65535) (hc2 : 64 ≤ chunk) :
    decS (putsB (fieldP again footer chunk num v)) = (⟨footer, 4, chunk, 0⟩, 0) := by
  obtain ⟨h, hl⟩ := field_facts again footer chunk num v hn hv hf hc
  have hb := putsB_len _ 24 fun p hp => (h p hp).2.1
  have hb2 := Nat.mul_le_mul_left 24 hl
  rw [decS_puts _ (fun p hp => (h p hp).1) (by omega) (by omega)]
  have u1 : uOf (lastF (putsF 0 (fieldP again footer chunk num v)) 1 0) = footer := by rw [show (1 : Int) = ((1 : Nat) : Int) from rfl, uOf_num, field_fm _ _ _ _ _ _ h1]; cases again <;> rfl
  have u2 : uOf (lastF (putsF 0 (fieldP again footer chunk num v)) 2 0) = 4 := by rw [show (2 : Int) = ((2 : Nat) : Int) from rfl, uOf_num, field_fm _ _ _ _ _ _ h2]; cases again <;> rfl
  have u3 : uOf (lastF (putsF 0 (fieldP again footer chunk num v)) 3 0) = chunk := by rw [show (3 : Int) = ((3 : Nat) : Int) from rfl, uOf_num, field_fm _ _ _ _ _ _ h3]; cases again <;> rfl
  have u5 : uOf (lastF (putsF 0 (fieldP again footer chunk num v)) 5 0) = 0 := by rw [show (5 : Int) = ((5 : Nat) : Int) from rfl, uOf_num, field_fm _ _ _ _ _ _ h5]; cases again <;> rfl
  have i1 : (lastF (putsF 0 (fieldP again footer chunk num v)) 1 0).isSome = true := by rw [show (1 : Int) = ((1 : Nat) : Int) from rfl, some_num, field_fm _ _ _ _ _ _ h1]; cases again <;> rfl
  have t8 : bOf (lastF (putsF 0 (fieldP again footer chunk num v)) 8000 2) = magicB := by rw [show (8000 : Int) = ((8000 : Nat) : Int) from rfl, bOf_txt]; cases again <;> rfl
  unfold decF
  rw [u1, u2, u3, u5, i1, t8, if_neg (by simp), if_neg (by omega), if_neg (by omega), if_neg (by decide), if_neg (by omega)]

/-- PostLacks' fields. -/
def lackP (how : Nat) (magic : List Nat) : List PutV := .num 2 0 :: (if how = 0 then [.num 1 5] else if how = 1 then [.num 1 5, .txt 8000 magic] else [.txt 8000 magicB])
theorem lack_facts (how : Nat) (magic : List Nat) (hm : magic.length ≤ 50) (hb : ∀ x ∈ magic, x < 256) : (∀ p ∈ lackP how magic, p.ok ∧ p.bytes.length ≤ 70 ∧ ∀ y ∈ p.bytes, y < 256) ∧ (lackP how magic).length ≤ 3 := by
  have hnum : ∀ n v, 1 ≤ n → n ≤ 536870911 → v < 18446744073709551616 → (PutV.num n v).ok ∧ (PutV.num n v).bytes.length ≤ 70 ∧ ∀ y ∈ (PutV.num n v).bytes, y < 256 := fun n v h1 h2 h3 => by
    have hok : (PutV.num n v).ok := ⟨h1, h2, by omega⟩
    exact ⟨hok, by have := num_len n v; omega, putB_byte _ hok trivial⟩
  have htxt : ∀ (l : List Nat), l.length ≤ 50 → (∀ y ∈ l, y < 256) → (PutV.txt 8000 l).ok ∧ (PutV.txt 8000 l).bytes.length ≤ 70 ∧ ∀ y ∈ (PutV.txt 8000 l).bytes, y < 256 := fun l h3 h4 => by
    have hok : (PutV.txt 8000 l).ok := ⟨by omega, by omega, by omega⟩
    refine ⟨hok, ?_, putB_byte _ hok h4⟩
    have a := (varP_length (8000 * 8 + 2)).2
    have b := (varP_length l.length).2
    show (varP _ ++ varP _ ++ l).length ≤ _
    rw [List.length_append, List.length_append]
    omega
  refine ⟨fun p hp => ?_, by unfold lackP; split; simp; split <;> simp⟩
  unfold lackP at hp
  rcases List.mem_cons.1 hp with rfl | hp
  · exact hnum _ _ (by omega) (by omega) (by omega)
  · split at hp
    · rw [List.mem_singleton] at hp
      subst hp
      exact hnum _ _ (by omega) (by omega) (by omega)
    · split at hp
      · simp only [List.mem_cons, List.not_mem_nil, or_false] at hp
        rcases hp with rfl | rfl
        · exact hnum _ _ (by omega) (by omega) (by omega)
        · exact htxt magic hm hb
      · rw [List.mem_singleton] at hp
        subst hp
        exact htxt magicB (by decide) (by decide)
theorem lack_dec (how : Nat) (magic : List Nat) (hm : magic.length ≤ 50) (hb : ∀ x ∈ magic, x < 256) (hne : magic ≠ magicB) : decS (putsB (lackP how magic)) = (PostV.zero, 2) := by
  obtain ⟨h, hl⟩ := lack_facts how magic hm hb
  have hb := putsB_len _ 70 fun p hp => (h p hp).2.1
  have hb2 := Nat.mul_le_mul_left 70 hl
  rw [decS_puts _ (fun p hp => (h p hp).1) (by omega) (by omega)]
  have t8 : bOf (lastF (putsF 0 (lackP how magic)) 8000 2) = if how = 0 then [] else if how = 1 then magic else magicB := by
    rw [show (8000 : Int) = ((8000 : Nat) : Int) from rfl, bOf_txt]
    unfold lackP
    split
    · rfl
    · split <;> rfl
  have i1 : ¬ how = 0 → ¬ how = 1 → (lastF (putsF 0 (lackP how magic)) 1 0).isSome = false := fun h0 h1 => by
    rw [show (1 : Int) = ((1 : Nat) : Int) from rfl, some_num]
    unfold lackP
    rw [if_neg h0, if_neg h1]
    rfl
  unfold decF
  rw [if_pos]
  by_cases h0 : how = 0
  · rw [t8, if_pos h0]; exact .inl (by decide)
  · by_cases h1 : how = 1
    · rw [t8, if_neg h0, if_pos h1]; exact .inl hne
    · exact .inr (i1 h0 h1)
end Go.Proofs.Ytihclbiohljmlaa
