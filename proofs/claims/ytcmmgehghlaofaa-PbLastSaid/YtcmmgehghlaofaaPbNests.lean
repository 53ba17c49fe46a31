/- PbNests: the walk. -/
import Derived.Test.YtcmmgehghlaofaaPbKnown
namespace Go.Proofs.Ytcmmgehghlaofaa
open Go.RowKit
set_option linter.unusedVariables false

def nestB : Nat → List Nat
  | 0 => (PutV.num 1 5).bytes
  | i + 1 => (PutV.txt (1 + i % 3) (nestB i)).bytes
theorem nestB_len (i : Nat) : (nestB i).length ≤ 20 * (i + 1) := by
  induction i with
  | zero => decide
  | succ i ih =>
    have h1 := (varP_length ((1 + i % 3) * 8 + 2)).2
    have h2 := (varP_length (nestB i).length).2
    show (varP _ ++ varP _ ++ _).length ≤ _
    rw [List.length_append, List.length_append]
    omega
theorem putB_byte (p : PutV) (h : p.ok) (hb : match p with | .num _ _ => True | .txt _ l => ∀ x ∈ l, x < 256) : ∀ x ∈ p.bytes, x < 256 := by
  intro x hx
  cases p with
  | num n v =>
    obtain ⟨h1, h2, h3⟩ := h
    rcases List.mem_append.1 hx with hx | hx
    · exact varP_byte _ (by omega) x hx
    · exact varP_byte _ h3 x hx
  | txt n l =>
    obtain ⟨h1, h2, h3⟩ := h
    rcases List.mem_append.1 hx with hx | hx
    · rcases List.mem_append.1 hx with hx | hx
      · exact varP_byte _ (by omega) x hx
      · exact varP_byte _ h3 x hx
    · exact hb x hx
theorem nest_ok (i : Nat) (h : i ≤ 1000) : (PutV.txt (1 + i % 3) (nestB i)).ok := by
  have := nestB_len i
  exact ⟨by omega, by omega, by omega⟩
theorem nestB_byte (i : Nat) (h : i ≤ 1000) : ∀ x ∈ nestB i, x < 256 := by
  induction i with
  | zero => decide
  | succ i ih => exact putB_byte _ (nest_ok i (by omega)) (ih (by omega))
theorem nest_dep (d m : Nat) (h : d ≤ 1000) : depS m (nestB d) = min m d := by
  induction d generalizing m with
  | zero => rw [show nestB 0 = (PutV.num 1 5).bytes from rfl, depS_num m 1 5 (by simp [PutV.ok]) (by decide)]; omega
  | succ d ih =>
    cases m with
    | zero => show 0 = _; omega
    | succ m =>
      have hl := nestB_len (d + 1)
      rw [show nestB (d + 1) = (PutV.txt (1 + d % 3) (nestB d)).bytes from rfl] at hl ⊢
      rw [depS_txt m _ _ (nest_ok d (by omega)) (by omega), ih m (by omega)]
      omega
theorem putT_nest (i : Nat) : ([] : List Nat) ++ putT (1 + (i : Int) % 3) (nestB i) = nestB (i + 1) := by
  unfold putT
  rw [if_pos (show mayF _ from ⟨by omega, by omega⟩)]
  have : (1 + (i : Int) % 3).toNat = 1 + i % 3 := by omega
  rw [this]
  rfl

set_option maxHeartbeats 3200000 in
set_option maxRecDepth 100000 in
theorem law_PbNests (deep most : Int) (w : World) (hd : -9223372036854775808 ≤ deep ∧ deep ≤ 9223372036854775807) (hm : -9223372036854775808 ≤ most ∧ most ≤ 9223372036854775807) :
    Calls Try.prog 17 #[.int .i64 deep, .int .i64 most] w fun e w' => e = .returned (.bool true) ∧ Below w.heap.size w w' := by
  obtain ⟨hd1, hd2⟩ := hd
  obtain ⟨hm1, hm2⟩ := hm
  by_cases hg : 0 ≤ deep ∧ deep ≤ 12 ∧ 0 ≤ most ∧ most ≤ 20
  · obtain ⟨g1, g2, g3, g4⟩ := hg
    obtain ⟨d, rfl⟩ : ∃ d : Nat, deep = d := ⟨deep.toNat, by omega⟩
    obtain ⟨m, rfl⟩ : ∃ m : Nat, most = m := ⟨most.toNat, by omega⟩
    have hd12 : d ≤ 12 := by omega
    have hm20 : m ≤ 20 := by omega
    clear g1 g2 g3 g4 hd1 hd2 hm1 hm2
    have h1 := fun (w : World) => putuint_p none 0 0 [] 1 5 w (Sl.none_ w) (by decide) (by decide)
    rw [show ([] : List Nat) ++ putU 1 5 = nestB 0 from by decide, show ((5 : Nat) : Int) = 5 from rfl] at h1
    have Hh1 := Lib.hid h1
    clear h1
    go_enter Try.func17, Try.ntmps17
    go_wp2_with fail
    refine (known3 w).mono ?_
    rintro e w1 ⟨rfl, hb1⟩
    go_wp2_with fail
    refine (Hh1.out w1).mono ?_
    rintro e w2 ⟨A2, m2, c2, rfl, s2, hb2⟩
    have Hs2 := Lib.hid s2
    have Hb2 := Lib.hid (below_trans' hb1 hb2)
    clear s2 hb1 hb2 Hh1
    go_wp2_with fail
    go_loopw [5, 6] (fun bv iv wr => ∃ (i k c : Nat) (A : Option Addr), i ≤ d ∧ iv = .int .i64 (i : Int) ∧ bv = .slice A k c ∧ Sl wr A k c (nats .u8 (nestB i)) ∧ Below w.heap.size w wr) (fun _ iv _ => d - (intOf iv).toNat)
    case atStart => exact ⟨0, m2, c2, A2, by omega, rfl, rfl, Hs2.out, Hb2.out⟩
    case round =>
      obtain ⟨i, k, c, A, hi, rfl, rfl, hs, hb⟩ := hrel
      have hlen := hs.len
      rw [nats_length] at hlen
      have hnl := nestB_len i
      rw [hlen] at hnl
      have hk : k ≤ 300 := by omega
      clear hnl hlen
      by_cases hlt : i < d
      · have h3 := putbytes_p none 0 0 [] (1 + (i : Int) % 3) A k c (nestB i) wr (Sl.none_ wr) hs (by decide) (by omega)
        rw [putT_nest] at h3
        have Hh3 := Lib.hid h3
        have Hb := Lib.hid hb
        clear h3 hs hb
        go_wp2_with fail
        refine Hh3.out.mono ?_
        rintro e w3 ⟨A3, m3, c3, rfl, s3, hb3⟩
        have Hs3 := Lib.hid s3
        have Hb3 := Lib.hid (Hb.out.trans (hb3.mono Hb.out.size))
        clear s3 hb3
        go_wp2_with fail
        exact ⟨⟨i + 1, m3, c3, A3, by omega, by go_num, rfl, Hs3.out, Hb3.out⟩, by simp only [intOf]; omega⟩
      · obtain rfl : i = d := by omega
        have hdp := depth_p m (m : Int) A k c (nestB i) wr (by simp) (by omega) (by omega) hs (nestB_byte i (by omega)) (by omega)
        rw [nest_dep i m (by omega)] at hdp
        have Hdp := Lib.hid hdp
        have Hb := Lib.hid hb
        clear hdp hs hb
        by_cases hlt2 : m < i
        · rw [Nat.min_eq_left (by omega)] at Hdp
          go_wp2_with fail
          refine Hdp.out.mono ?_
          rintro e w3 ⟨rfl, hb3⟩
          go_wp2_with fail
          go_ret
          exact ⟨by first | rfl | simp, Hb.out.trans (hb3.mono Hb.out.size)⟩
        · rw [Nat.min_eq_right (by omega)] at Hdp
          go_wp2_with fail
          refine Hdp.out.mono ?_
          rintro e w3 ⟨rfl, hb3⟩
          go_wp2_with fail
          go_ret
          exact ⟨by first | rfl | simp, Hb.out.trans (hb3.mono Hb.out.size)⟩
  · have hbad : deep < 0 ∨ (0 ≤ deep ∧ 12 < deep) ∨ (0 ≤ deep ∧ deep ≤ 12 ∧ most < 0) ∨ (0 ≤ deep ∧ deep ≤ 12 ∧ 0 ≤ most ∧ 20 < most) := by omega
    clear hg
    rcases hbad with g1 | ⟨g1, g2⟩ | ⟨g1, g2, g3⟩ | ⟨g1, g2, g3, g4⟩
    all_goals
      go_enter Try.func17, Try.ntmps17
      go_wp2_with fail
      refine (known3 w).mono ?_
      rintro e w1 ⟨rfl, hb1⟩
      go_wp2_with fail
      go_ret
      exact ⟨rfl, hb1⟩
end Go.Proofs.Ytcmmgehghlaofaa
