/- rle2's Short; what a run's reader answers. -/
import Derived.Test.YtehcbgnoiogncaaRunRd3
import Derived.Test.YtehcbgnoiogncaaRepI
namespace Go.Proofs.Ytehcbgnoiogncaa
open Go.RowKit
open PackMath
set_option linter.unusedVariables false

theorem ints_length (k : IntKind) (l : List Int) : (ints k l).length = l.length := by simp [ints]
theorem bigV_lt (l : List Nat) (acc i : Nat) (h : acc < 256 ^ i) (hl : ∀ x ∈ l, x < 256) : bigV l acc < 256 ^ (i + l.length) := by
  induction l generalizing acc i with
  | nil => exact h
  | cons x l ih =>
    rw [bigV_cons, List.length_cons, show i + (l.length + 1) = i + 1 + l.length from by omega]
    have hx := hl x List.mem_cons_self
    exact ih _ _ (by rw [Nat.pow_succ]; omega) (fun y hy => hl y (List.mem_cons_of_mem _ hy))
theorem bigV_u64 (l : List Nat) (hl : ∀ x ∈ l, x < 256) (h8 : l.length ≤ 8) : bigV l 0 < 18446744073709551616 := by
  have h1 := bigV_lt l 0 0 (by decide) hl
  have h2 : 256 ^ (0 + l.length) ≤ 256 ^ 8 := Nat.pow_le_pow_right (by decide) (by omega)
  exact Nat.lt_of_lt_of_le h1 h2

/-- What a kind's reader answers: numbers, how far it read, the fault. -/
def KdOut (w : World) (g : Nat) (A : Option Addr) (n c : Nat) (bs : List Nat) (p : Nat) (sg : Bool) (r : RunR) (e : Ending) (w' : World) : Prop :=
  ∃ B cB p', e = .returned (.tuple #[.slice B r.1.length cB, .int .i64 (r.2.2 : Int)]) ∧ Sl w' B r.1.length cB (ints .i64 r.1) ∧ RdTo w g A n c bs p' sg w' ∧ (r.2.2 = 0 → p' = p + r.2.1)
theorem kd_bad {w w' : World} {g : Nat} {A : Option Addr} {n c : Nat} {bs : List Nat} {p p' : Nat} {sg : Bool} (er : Nat) (he : er ≠ 0) (t : RdTo w g A n c bs p' sg w') :
    KdOut w g A n c bs p sg (badR er) (.returned (.tuple #[.slice none 0 0, .int .i64 (er : Int)])) w' :=
  ⟨none, 0, p', rfl, Sl.none_ _, t, fun h => absurd h he⟩
theorem kd_ok {w w' : World} {g : Nat} {A : Option Addr} {n c : Nat} {bs : List Nat} {p p' k : Nat} {sg : Bool} {B : Option Addr} {m cB : Nat} {l : List Int} (s : Sl w' B m cB (ints .i64 l)) (t : RdTo w g A n c bs p' sg w') (hp : p' = p + k) :
    KdOut w g A n c bs p sg (okR (some l) k) (.returned (.tuple #[.slice B m cB, .int .i64 0])) w' := by
  have hm : l.length = m := by
    have := s.len
    rwa [ints_length] at this
  subst hm
  exact ⟨B, cB, p', rfl, s, t, fun _ => hp⟩

set_option maxHeartbeats 1600000 in
set_option maxRecDepth 4000 in
theorem rdshort {w : World} {g : Nat} {A : Option Addr} {n c : Nat} {bs : List Nat} {p : Nat} {sg : Bool} (h : Rd w g A n c bs p sg) (hp : p < n) :
    Calls Try.prog 24 #[.pointer (some ⟨g, 0, none⟩)] w fun e w' => KdOut w g A n c bs p sg (shortS bs p sg) e w' := by
  have x8 := h.x8 p
  have hn := h.len
  have h1 := rdbyte_ok h hp
  unfold shortS
  obtain ⟨V, hV⟩ : ∃ V, bigV ((bs.drop (p + 1)).take (bs.getD p 0 / 8 % 8 + 1)) 0 = V := ⟨_, rfl⟩
  have hV64 : V < 18446744073709551616 := by
    rw [← hV]
    exact bigV_u64 _ (fun x hx => h.b8 x (List.mem_of_mem_drop (List.mem_of_mem_take hx))) (by rw [List.length_take]; omega)
  have hB := fun w' (h' : Rd w' g A n c bs (p + 1) sg) (hr : p + 1 + (bs.getD p 0 / 8 % 8 + 1) ≤ n) => rdbig_ok h' (bs.getD p 0 / 8 % 8 + 1) (by omega) (by omega) (by omega)
  have hN := fun w' (h' : Rd w' g A n c bs (p + 1) sg) (hr : n < p + 1 + (bs.getD p 0 / 8 % 8 + 1)) => rdbig_no h' (bs.getD p 0 / 8 % 8 + 1) (by omega) (by omega) (by omega)
  rw [hV] at hB ⊢
  rw [hn]
  generalize bs.getD p 0 = x at *
  have e1 := and_i64_7 (x / 8) (by omega)
  rw [Int.natCast_ediv] at e1
  have e2 := and_i64_7 x x8
  obtain ⟨m, hm⟩ : ∃ m, x / 8 % 8 = m := ⟨_, rfl⟩
  obtain ⟨q, hq⟩ : ∃ q, x % 8 = q := ⟨_, rfl⟩
  rw [hm] at e1 hB hN ⊢
  rw [hq] at e2 ⊢
  have hm8 : m < 8 := by omega
  have hq8 : q < 8 := by omega
  have e1' : bits .and .i64 ((x : Int) / 8) 7 = (m : Int) := e1
  clear e1 hm hq hV
  have HB := Lib.hid hB
  have HN := Lib.hid hN
  clear hB hN
  by_cases hr : n < p + 1 + (m + 1)
  · rw [if_pos hr]
    go_enter Try.func24, Try.ntmps24
    go_wp2_with fail
    refine h1.mono ?_
    rintro e w1 ⟨rfl, t1⟩
    have T1 := Lib.hid t1
    clear t1 h1 h
    go_wp2_with fail
    refine (HN.out w1 T1.out.1 hr).mono ?_
    rintro e w2 ⟨rfl, t2⟩
    have T2 := Lib.hid (T1.out.trans t2)
    clear t2
    go_wp2_with fail
    go_ret2
    exact kd_bad 3 (by decide) T2.out
  · rw [if_neg hr]
    cases hv : numS sg V with
    | none =>
      have hno := fun w' (h' : Rd w' g A n c bs (p + 1 + (m + 1)) sg) => rdnum_no h' V hV64 hv
      have Hno := Lib.hid hno
      clear hno hv
      go_enter Try.func24, Try.ntmps24
      go_wp2_with fail
      refine h1.mono ?_
      rintro e w1 ⟨rfl, t1⟩
      have T1 := Lib.hid t1
      clear t1 h1 h
      go_wp2_with fail
      refine (HB.out w1 T1.out.1 (by omega)).mono ?_
      rintro e w2 ⟨rfl, t2⟩
      have T2 := Lib.hid (T1.out.trans t2)
      clear t2
      go_wp2_with fail
      refine (Hno.out w2 T2.out.1).mono ?_
      rintro e w3 ⟨⟨z, rfl⟩, rfl⟩
      go_wp2_with fail
      go_ret2
      exact kd_bad 2 (by decide) T2.out
    | some v =>
      have hyes := fun w' (h' : Rd w' g A n c bs (p + 1 + (m + 1)) sg) => rdnum_ok h' V hV64 v hv
      have Hyes := Lib.hid hyes
      clear hyes hv
      go_enter Try.func24, Try.ntmps24
      go_wp2_with fail
      refine h1.mono ?_
      rintro e w1 ⟨rfl, t1⟩
      have T1 := Lib.hid t1
      clear t1 h1 h
      go_wp2_with fail
      refine (HB.out w1 T1.out.1 (by omega)).mono ?_
      rintro e w2 ⟨rfl, t2⟩
      have T2 := Lib.hid (T1.out.trans t2)
      clear t2
      go_wp2_with fail
      refine (Hyes.out w2 T2.out.1).mono ?_
      rintro e w3 ⟨rfl, rfl⟩
      go_wp2_with fail
      refine (repeat_one _ 1 (q + 3) v _ (Sl.one_new _ _ _ rfl) (by omega) (by omega)).mono ?_
      rintro e w4 ⟨B, rfl, s4, b4⟩
      have S4 := Lib.hid s4
      have B4 := Lib.hid b4
      clear s4 b4
      go_wp2_with fail
      go_ret2
      exact kd_ok S4.out (T2.out.below (below_trans' ((Below.refl _ _).alloc (Nat.le_refl _) _) B4.out)) (by omega)
end Go.Proofs.Ytehcbgnoiogncaa
