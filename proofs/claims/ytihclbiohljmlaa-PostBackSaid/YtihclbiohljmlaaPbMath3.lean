import Derived.Test.YtihclbiohljmlaaPbMath2
/-! Layer 3, plain: how long fields that are put are; they are bytes. -/
namespace Go.Proofs.Ytihclbiohljmlaa

theorem putB_byte (p : PutV) (h : p.ok) (hb : match p with | .num _ _ => True | .txt _ l => ∀ x ∈ l, x < 256) : ∀ x ∈ p.bytes, x < 256 := by
  intro x hx
  cases p with
  | num n v =>
    obtain ⟨h1, h2, h3⟩ := h
    rcases List.mem_append.1 hx with hx | hx
    · exact varP_byte _ (by omega) x hx
    · exact varP_byte _ h3 x hx
  | txt n l =>
    obtain ⟨h1, h2, h3⟩ := h
    rcases List.mem_append.1 hx with hx | hx
    · rcases List.mem_append.1 hx with hx | hx
      · exact varP_byte _ (by omega) x hx
      · exact varP_byte _ h3 x hx
    · exact hb x hx

theorem putsB_len (ps : List PutV) (K : Nat) (h : ∀ p ∈ ps, p.bytes.length ≤ K) : (putsB ps).length ≤ K * ps.length := by
  induction ps with
  | nil => simp [putsB]
  | cons p ps ih =>
    have h1 := h p (by simp)
    have h2 := ih fun q hq => h q (by simp [hq])
    show (p.bytes ++ putsB ps).length ≤ K * (ps.length + 1)
    rw [List.length_append, Nat.mul_add]
    omega

theorem num_len (n v : Nat) : (PutV.num n v).bytes.length ≤ 20 := by
  have h1 := (varP_length (n * 8)).2
  have h2 := (varP_length v).2
  show (varP _ ++ varP _).length ≤ _
  rw [List.length_append]
  omega

theorem putsB_byte (ps : List PutV) (h : ∀ p ∈ ps, ∀ x ∈ p.bytes, x < 256) : ∀ x ∈ putsB ps, x < 256 := by
  induction ps with
  | nil => exact fun _ h => by cases h
  | cons p ps ih =>
    intro x hx
    rcases List.mem_append.1 hx with hx | hx
    · exact h p (by simp) x hx
    · exact ih (fun q hq => h q (by simp [hq])) x hx
end Go.Proofs.Ytihclbiohljmlaa
