/- pb.field: what it answers, for any bytes and any place in them. -/
import Derived.Test.YtihclbiohljmlaaPbField5
namespace Go.Proofs.Ytihclbiohljmlaa
open Go.RowKit
set_option linter.unusedVariables false

theorem varR_bd (l : List Nat) (i acc : Nat) (h : acc < 2 ^ (7 * i)) (hi : i ≤ 9) : (varR l i acc).1 < 18446744073709551616 ∧ (varR l i acc).2.1 ≤ 10 ∧ (varR l i acc).2.2 ≤ 4 := by
  induction l generalizing i acc with
  | nil => simp [varR]
  | cons c l ih =>
    by_cases h9 : i = 9 ∧ 1 < c
    · obtain ⟨rfl, h1⟩ := h9
      rw [varR_long _ _ _ h1]; simp
    · have hv := var_or acc c i h hi (by omega)
      by_cases hc : c < 128
      · rw [varR_last _ _ _ _ h9 hc]
        exact ⟨hv.2.1, by simp only; omega, by simp⟩
      · rw [varR_more _ _ _ _ h9 hc]
        exact ih _ _ (hv.2.2 (by omega)) (by omega)
theorem varS_in (bs : List Nat) (k : Nat) (h : k ≤ bs.length) : varS bs (k : Int) = varR (bs.drop k) 0 0 := by
  unfold varS
  rw [if_neg (by omega)]
  simp

/-- A field as a value. -/
def fldV (f : FieldV) (B : Option Addr) (cB : Nat) : Value := .agg #[.int .i64 (f.num : Int), .int .i64 (f.wire : Int), .int .u64 (f.u : Int), .slice B f.b.length cB, .int .i64 (f.at_ : Int)]
/-- A field's bytes lie in memory. -/
structure Txt (w : World) (B : Option Addr) (cB : Nat) (b : List Nat) : Prop where
  sl : Sl w B b.length cB (nats .u8 b)
  typ : Typ w B 5
theorem Txt.none_ (w : World) : Txt w none 0 [] := ⟨Sl.none_ w, fun ad h => by cases h⟩
theorem fldV_zero : fldV FieldV.zero none 0 = fz := rfl

theorem field_no {er : Nat} {w w' : World} {e : Ending} (h : e = .returned (.tuple #[fz, .int .i64 0, .int .i64 (er : Int)]) ∧ Below w.heap.size w w') :
    ∃ B cB, e = .returned (.tuple #[fldV FieldV.zero B cB, .int .i64 ((0 : Nat) : Int), .int .i64 (er : Int)]) ∧ Txt w' B cB FieldV.zero.b ∧ Below w.heap.size w w' := ⟨none, 0, h.1, Txt.none_ w', h.2⟩

set_option maxHeartbeats 1600000 in
theorem field_p (A : Option Addr) (n c : Nat) (bs : List Nat) (k : Nat) (w : World) (hb : Sl w A n c (nats .u8 bs)) (hbs : ∀ x ∈ bs, x < 256) (hk : k ≤ n) (hn : n ≤ 1000000000000) :
    Calls Try.prog 37 #[.slice A n c, .int .i64 (k : Int)] w fun e w' => ∃ B cB, e = .returned (.tuple #[fldV (fldR (bs.drop k) k).1 B cB, .int .i64 ((fldR (bs.drop k) k).2.1 : Int), .int .i64 ((fldR (bs.drop k) k).2.2 : Int)]) ∧ Txt w' B cB (fldR (bs.drop k) k).1.b ∧ Below w.heap.size w w' := by
  have hlen := hb.len
  rw [nats_length] at hlen
  have v1 := varS_in bs k (by omega)
  have b1 := varR_bd (bs.drop k) 0 0 (by decide) (by decide)
  have z1 := varR_size (bs.drop k) 0 0
  generalize hR : varR (bs.drop k) 0 0 = r at v1 b1 z1
  obtain ⟨q, a, er⟩ := r
  simp only at b1 z1
  have hdl : (bs.drop k).length = n - k := by rw [List.length_drop, hlen]
  unfold fldR
  rw [hR]
  simp only []
  by_cases her : er = 0
  · subst her
    have z1 := z1 rfl
    have v2 := varS_in bs (k + a) (by omega)
    rw [Int.natCast_add] at v2
    have b2 := varR_bd (bs.drop (k + a)) 0 0 (by decide) (by decide)
    have z2 := varR_size (bs.drop (k + a)) 0 0
    have hdd : (bs.drop k).drop a = bs.drop (k + a) := by rw [List.drop_drop]
    have hdl2 : (bs.drop (k + a)).length = n - (k + a) := by rw [List.length_drop, hlen]
    generalize hR2 : varR (bs.drop (k + a)) 0 0 = r2 at v2 b2 z2
    obtain ⟨v, m, er2⟩ := r2
    simp only at b2 z2
    rw [if_neg (by simp), hdd, hR2]
    simp only []
    by_cases hbad : q / 8 < 1 ∨ 536870911 < q / 8
    · rw [if_pos hbad]
      exact (field_bad2 A n c bs k w hb hbs hk hn q a v1 b1.1 _ _ rfl rfl hbad).mono fun e w' h => field_no h
    · rw [if_neg hbad]
      have hn1 : 1 ≤ q / 8 := by omega
      have hn2 : q / 8 ≤ 536870911 := by omega
      by_cases k0 : q % 8 = 0
      · rw [if_pos k0]
        by_cases he2 : er2 = 0
        · subst he2
          rw [if_neg (by simp)]
          refine (field_var A n c bs k w hb hbs hk hn q a v1 b1.1 _ rfl k0 hn1 hn2 b1.2.1 v m v2 b2.2.1).mono ?_
          rintro e w' ⟨rfl, hbel⟩
          exact ⟨none, 0, rfl, Txt.none_ w', hbel⟩
        · rw [if_pos he2]
          exact (field_varbad A n c bs k w hb hbs hk hn q a v1 b1.1 _ _ rfl rfl (.inl k0) hn1 hn2 b1.2.1 v m er2 v2 (by simp; omega) (by omega)).mono fun e w' h => field_no h
      · rw [if_neg k0]
        by_cases k2 : q % 8 = 2
        · rw [if_pos k2]
          by_cases he2 : er2 = 0
          · subst he2
            have z2 := z2 rfl
            rw [if_neg (by simp), List.drop_drop]
            by_cases hs : (bs.drop (k + a + m)).length < v
            · rw [if_pos hs]
              rw [List.length_drop] at hs
              exact (field_textshort A n c bs k w hb hbs hk hn q a v1 b1.1 _ rfl k2 hn1 hn2 b1.2.1 v m v2 (by omega) (by omega)).mono fun e w' h => field_no h
            · rw [if_neg hs]
              rw [List.length_drop] at hs
              refine (field_text A n c bs k w hb hbs hk hn q a v1 b1.1 _ rfl k2 hn1 hn2 b1.2.1 v m v2 (by omega) (by omega)).mono ?_
              rintro e w' ⟨B, cB, rfl, hsl, ht, hbel⟩
              have hl : ((bs.drop (k + a + m)).take v).length = v := by rw [List.length_take, List.length_drop]; omega
              refine ⟨B, cB, ?_, ⟨?_, ht⟩, hbel⟩
              · unfold fldV
                simp only [hl]
                rfl
              · simp only [hl]
                exact hsl
          · rw [if_pos he2]
            exact (field_varbad A n c bs k w hb hbs hk hn q a v1 b1.1 _ _ rfl rfl (.inr k2) hn1 hn2 b1.2.1 v m er2 v2 (by simp; omega) (by omega)).mono fun e w' h => field_no h
        · rw [if_neg k2]
          by_cases k1 : q % 8 = 1
          · rw [if_pos k1, hdl2]
            by_cases hs : n - (k + a) < 8
            · rw [if_pos hs]
              exact (field_short A n c bs k w hb hbs hk hn q a v1 b1.1 _ _ rfl k1 hn1 hn2 b1.2.1 (by omega) (.inl ⟨rfl, by omega⟩)).mono fun e w' h => field_no h
            · rw [if_neg hs]
              refine (field_fixed A n c bs k w hb hbs hk hn q a v1 b1.1 _ 1 8 rfl k1 hn1 hn2 b1.2.1 (.inl ⟨rfl, rfl⟩) (by omega)).mono ?_
              rintro e w' ⟨rfl, hbel⟩
              exact ⟨none, 0, rfl, Txt.none_ w', hbel⟩
          · rw [if_neg k1]
            by_cases k5 : q % 8 = 5
            · rw [if_pos k5, hdl2]
              by_cases hs : n - (k + a) < 4
              · rw [if_pos hs]
                exact (field_short A n c bs k w hb hbs hk hn q a v1 b1.1 _ _ rfl k5 hn1 hn2 b1.2.1 (by omega) (.inr ⟨rfl, by omega⟩)).mono fun e w' h => field_no h
              · rw [if_neg hs]
                refine (field_fixed A n c bs k w hb hbs hk hn q a v1 b1.1 _ 5 4 rfl k5 hn1 hn2 b1.2.1 (.inr ⟨rfl, rfl⟩) (by omega)).mono ?_
                rintro e w' ⟨rfl, hbel⟩
                exact ⟨none, 0, rfl, Txt.none_ w', hbel⟩
            · rw [if_neg k5]
              exact (field_wire A n c bs k w hb hbs hk hn q a v1 b1.1 _ _ rfl rfl (by omega) hn1 hn2 b1.2.1).mono fun e w' h => field_no h
  · rw [if_pos her]
    exact (field_bad1 A n c bs k er w hb hbs hk hn q a v1 (by simp; omega) (by omega)).mono fun e w' h => field_no h
end Go.Proofs.Ytihclbiohljmlaa
