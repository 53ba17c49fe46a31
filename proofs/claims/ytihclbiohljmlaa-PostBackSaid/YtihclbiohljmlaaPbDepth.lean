/- pb.Depth: what it answers. -/
import Derived.Test.YtihclbiohljmlaaPbAsk3
import Derived.Test.YtihclbiohljmlaaPbMath2
namespace Go.Proofs.Ytihclbiohljmlaa
open Go.RowKit
set_option linter.unusedVariables false

/-- What may be said of each field of bytes. -/
structure FieldV.In (f : FieldV) (N : Nat) : Prop where
  u : f.u < 18446744073709551616
  bl : f.b.length ≤ N
  b : ∀ x ∈ f.b, x < 256
  num : f.num ≤ 536870911
  wire : f.wire < 8
theorem leS_lt64 (l : List Nat) (k : Nat) (hk : l.length ≤ k) (hk8 : k ≤ 8) (h : ∀ x ∈ l, x < 256) : leS l < 18446744073709551616 := by
  have h1 := leS_lt l h
  have h2 : 256 ^ l.length ≤ 256 ^ 8 := Nat.pow_le_pow_right (by decide) (by omega)
  rw [show (256 : Nat) ^ 8 = 18446744073709551616 from rfl] at h2
  omega
theorem FieldV.zero_in (N : Nat) : FieldV.zero.In N := ⟨by decide, Nat.zero_le _, (fun _ h => by cases h), by decide, by decide⟩
theorem fldR_in (l : List Nat) (at_ : Nat) (h : ∀ x ∈ l, x < 256) : (fldR l at_).1.In l.length := by
  have b1 := varR_bd l 0 0 (by decide) (by decide)
  have b2 := varR_bd (l.drop (varR l 0 0).2.1) 0 0 (by decide) (by decide)
  have hd : ∀ k, ∀ x ∈ l.drop k, x < 256 := fun k x hx => h x (List.mem_of_mem_drop hx)
  unfold fldR
  generalize varR l 0 0 = r at *
  obtain ⟨q, a, er⟩ := r
  dsimp only at *
  generalize varR (l.drop a) 0 0 = r2 at *
  obtain ⟨v, m, er2⟩ := r2
  dsimp only at *
  by_cases h1 : er = 0
  · rw [if_neg (by simpa using h1)]
    by_cases h2 : q / 8 < 1 ∨ 536870911 < q / 8
    · rw [if_pos h2]; exact FieldV.zero_in _
    · rw [if_neg h2]
      by_cases k0 : q % 8 = 0
      · rw [if_pos k0]
        by_cases h3 : er2 = 0
        · rw [if_neg (by simpa using h3)]
          exact ⟨b2.1, Nat.zero_le _, (fun _ h => by cases h), by dsimp only; omega, by dsimp only; decide⟩
        · rw [if_pos h3]; exact FieldV.zero_in _
      · rw [if_neg k0]
        by_cases k2 : q % 8 = 2
        · rw [if_pos k2]
          by_cases h3 : er2 = 0
          · rw [if_neg (by simpa using h3)]
            by_cases h4 : ((l.drop a).drop m).length < v
            · rw [if_pos h4]; exact FieldV.zero_in _
            · rw [if_neg h4]
              exact ⟨by dsimp only; decide, by simp only [List.length_take, List.length_drop]; omega, fun x hx => hd _ x (List.mem_of_mem_drop (List.mem_of_mem_take hx)), by dsimp only; omega, by dsimp only; decide⟩
          · rw [if_pos h3]; exact FieldV.zero_in _
        · rw [if_neg k2]
          by_cases k1 : q % 8 = 1
          · rw [if_pos k1]
            by_cases h4 : (l.drop a).length < 8
            · rw [if_pos h4]; exact FieldV.zero_in _
            · rw [if_neg h4]
              exact ⟨leS_lt64 _ 8 (by simp; omega) (by decide) fun x hx => hd _ x (List.mem_of_mem_take hx), Nat.zero_le _, (fun _ h => by cases h), by dsimp only; omega, by dsimp only; decide⟩
          · rw [if_neg k1]
            by_cases k5 : q % 8 = 5
            · rw [if_pos k5]
              by_cases h4 : (l.drop a).length < 4
              · rw [if_pos h4]; exact FieldV.zero_in _
              · rw [if_neg h4]
                exact ⟨leS_lt64 _ 4 (by simp; omega) (by decide) fun x hx => hd _ x (List.mem_of_mem_take hx), Nat.zero_le _, (fun _ h => by cases h), by dsimp only; omega, by dsimp only; decide⟩
            · rw [if_neg k5]; exact FieldV.zero_in _
  · rw [if_pos h1]; exact FieldV.zero_in _
theorem parR_in (f : Nat) (l : List Nat) (at_ N : Nat) (acc : List FieldV) (h : ∀ x ∈ l, x < 256) (hl : l.length ≤ N) (ha : ∀ x ∈ acc, x.In N) (hn : acc.length ≤ 4096) : (∀ x ∈ (parR f l at_ acc).1, x.In N) ∧ (parR f l at_ acc).1.length ≤ 4096 := by
  induction f generalizing l at_ acc with
  | zero => exact ⟨ha, hn⟩
  | succ f ih =>
    unfold parR
    by_cases h0 : l = []
    · rw [if_pos h0]; exact ⟨ha, hn⟩
    · rw [if_neg h0]
      by_cases h1 : 4096 ≤ acc.length
      · rw [if_pos h1]; exact ⟨(fun _ h => by cases h), by simp⟩
      · rw [if_neg h1]
        by_cases h2 : (fldR l at_).2.2 = 0
        · rw [if_neg (by simpa using h2)]
          refine ih _ _ _ (fun x hx => h x (List.mem_of_mem_drop hx)) (by simp; omega) (fun x hx => ?_) (by simp; omega)
          rcases List.mem_append.1 hx with hx | hx
          · exact ha x hx
          · rw [List.mem_singleton] at hx
            subst hx
            have := fldR_in l at_ h
            exact ⟨this.u, Nat.le_trans this.bl hl, this.b, this.num, this.wire⟩
        · rw [if_pos h2]; exact ⟨(fun _ h => by cases h), by simp⟩
theorem parS_in (l : List Nat) (h : ∀ x ∈ l, x < 256) : (∀ x ∈ (parS l).1, x.In l.length) ∧ (parS l).1.length ≤ 4096 := by
  unfold parS
  by_cases h1 : 262144 < l.length
  · rw [if_pos h1]; exact ⟨(fun _ h => by cases h), by simp⟩
  · rw [if_neg h1]; exact parR_in _ _ _ _ _ h (Nat.le_refl _) (fun _ h => by cases h) (by simp)

def depF (m : Nat) (fs : List FieldV) : Nat := (fs.filter (fun f => f.wire = 2)).foldl (fun n f => max n (1 + depS m f.b)) 0
theorem depF_snoc (m : Nat) (fs : List FieldV) (f : FieldV) : depF m (fs ++ [f]) = if f.wire = 2 then max (depF m fs) (1 + depS m f.b) else depF m fs := by
  unfold depF
  rw [List.filter_append]
  by_cases h : f.wire = 2
  · rw [if_pos h, List.filter_cons_of_pos (by simpa using h), List.foldl_append]; rfl
  · rw [if_neg h, List.filter_cons_of_neg (by simpa using h)]; simp
theorem fold_le (g : FieldV → Nat) (M : Nat) (hg : ∀ f, g f ≤ M) (l : List FieldV) (n : Nat) (hn : n ≤ M) : l.foldl (fun n f => max n (g f)) n ≤ M := by
  induction l generalizing n with
  | nil => exact hn
  | cons f l ih => exact ih _ (Nat.max_le.2 ⟨hn, hg f⟩)
theorem depS_le (m : Nat) (b : List Nat) : depS m b ≤ m := by
  induction m generalizing b with
  | zero => exact Nat.le_refl _
  | succ m ih =>
    unfold depS
    split
    · omega
    · exact fold_le (fun f => 1 + depS m f.b) (m + 1) (fun f => by have := ih f.b; omega) _ _ (by omega)
theorem depF_le (m : Nat) (fs : List FieldV) : depF m fs ≤ m + 1 := fold_le (fun f => 1 + depS m f.b) (m + 1) (fun f => by have := depS_le m f.b; omega) _ _ (by omega)
theorem depS_succ (m : Nat) (b : List Nat) : depS (m + 1) b = if (parS b).2 ≠ 0 then 0 else depF m (parS b).1 := rfl

theorem max_nat (a b : Nat) : ((max a b : Nat) : Int) = if (a : Int) ≤ (b : Int) then (b : Int) else (a : Int) := by
  rw [Nat.max_def]; split <;> split <;> omega

set_option maxHeartbeats 4000000 in
set_option maxRecDepth 100000 in
theorem depth_p (m : Nat) : ∀ (most : Int) (A : Option Addr) (n c : Nat) (bs : List Nat) (w : World), most.toNat = m → -9223372036854775808 ≤ most → most ≤ 1000000 → Sl w A n c (nats .u8 bs) → (∀ x ∈ bs, x < 256) → n ≤ 1000000 →
    Calls Try.prog 36 #[.slice A n c, .int .i64 most] w fun e w' => e = .returned (.int .i64 ((depS m bs : Nat) : Int)) ∧ Below w.heap.size w w' := by
  induction m with
  | zero =>
    intro most A n c bs w hm h1 h2 hb hbs hn
    have hlt : most < 1 := by omega
    clear hm
    go_enter Try.func36, Try.ntmps36
    go_wp2_with fail
    go_ret
    exact ⟨rfl, Below.refl _ _⟩
  | succ m ih =>
    intro most A n c bs w hm h1 h2 hb hbs hn
    have hge : 1 ≤ most := by omega
    have hm6 : m ≤ 1000000 := by omega
    have hm1 : (most - 1).toNat = m := by omega
    have hlen := hb.len
    rw [nats_length] at hlen
    have hpp := parse_p A n c bs w hb hbs (by omega)
    have hin := (parS_in bs hbs).1
    have hfew := (parS_in bs hbs).2
    have hds := depS_succ m bs
    generalize hR : depS (m + 1) bs = R at hds ⊢
    generalize parS bs = P at hpp hin hfew hds
    obtain ⟨fs, er⟩ := P
    dsimp only at hin hfew hds
    rw [hlen] at hin
    have Hih := Lib.hid ih
    have Hin := Lib.hid hin
    have Hpp := Lib.hid hpp
    have Hm1 := Lib.hid hm1
    clear ih hin hpp hm hR hlen hm1
    by_cases her : er = 0
    · subst her
      rw [if_neg (by simp)] at hds
      subst hds
      go_enter Try.func36, Try.ntmps36
      go_wp2_with fail
      refine Hpp.out.mono ?_
      rintro e w1 ⟨F, mm, cF, ps, rfl, hfl, hps, hb1⟩
      dsimp only at hps
      subst hps
      have Hfl := Lib.hid hfl
      have Hb1 := Lib.hid hb1
      have hml : ps.length = mm := hfl.hl
      have hmm : mm ≤ 4096 := by rw [List.length_map] at hfew; omega
      clear hfl hb1 hfew
      have Hml := Lib.hid hml
      clear hml
      go_wp2_with fail
      go_loopw [7, 21] (fun nv iv wr => ∃ (i : Nat), i ≤ mm ∧ iv = .int .i64 (i : Int) ∧ nv = .int .i64 ((depF m ((ps.map FA.f).take i) : Nat) : Int) ∧ Below w1.heap.size w1 wr) (fun _ iv _ => mm - (intOf iv).toNat)
      case atStart => exact ⟨0, by omega, rfl, rfl, Below.refl _ _⟩
      case round =>
        obtain ⟨i, hi', rfl, rfl, hbel⟩ := hrel
        by_cases hlt : i < mm
        · obtain ⟨b, off, rfl, hbw, hcell⟩ := Hfl.out.sl.at5 Hml.out (by omega)
          obtain ⟨c0, c1, c2, c3, c4⟩ := hcell i hlt
          have hmem := getD_mem ps i (by rw [Hml.out]; exact hlt)
          have htk := take_getD ps i (by rw [Hml.out]; exact hlt)
          have htx := (Hfl.out.txt _ hmem).keep hbel
          have hin := Hin.out _ (List.mem_map_of_mem hmem)
          have hsn := depF_snoc m ((ps.map FA.f).take i) (ps.getD i noFA).f
          rw [← htk] at hsn
          have hdle := depF_le m ((ps.map FA.f).take i)
          clear hcell htk hmem
          generalize depF m ((ps.map FA.f).take i) = D at *
          generalize ps.getD i noFA = p at *
          obtain ⟨⟨fnum, fwire, u, bb, at_⟩, pA, pc⟩ := p
          dsimp only at *
          have d0 := (hbel.cell (p := ⟨b, off + i * 5, none⟩) hbw).trans c0
          have d1 := (hbel.cell (p := ⟨b, off + i * 5 + 1, none⟩) hbw).trans c1
          have d2 := (hbel.cell (p := ⟨b, off + i * 5 + 2, none⟩) hbw).trans c2
          have d3 := (hbel.cell (p := ⟨b, off + i * 5 + 3, none⟩) hbw).trans c3
          have d4 := (hbel.cell (p := ⟨b, off + i * 5 + 4, none⟩) hbw).trans c4
          have hbl := hin.bl
          have Hin2 := Lib.hid hin.b
          have Htx := Lib.hid htx
          have Hsn := Lib.hid hsn
          have hbl1 : bb.length ≤ n := hbl
          clear hin htx hsn c0 c1 c2 c3 c4 hbl
          generalize hbbl : bb.length = bl at *
          have Hbbl := Lib.hid hbbl
          clear hbbl
          have hszr := hbel.size
          by_cases hw : fwire = 2
          · subst hw
            have hs1 : Sl wr pA bl pc (nats .u8 bb) := by have := Htx.out.sl; rw [Hbbl.out] at this; exact this
            have Hs1 := Lib.hid hs1
            have hdl := depS_le m bb
            have Hbel := Lib.hid hbel
            clear hs1 hbel
            go_wp2_with fail
            refine (Hih.out (most - 1) pA bl pc bb _ Hm1.out (by omega) (by omega) (Hs1.out.keep (below_new _ _)) Hin2.out (by omega)).mono ?_
            rintro e w2 ⟨rfl, hb2⟩
            generalize depS m bb = dd at *
            go_wp2_with fail
            have hD := Hsn.out
            rw [if_pos trivial] at hD
            exact ⟨⟨i + 1, by omega, by go_num, by rw [hD]; congr 1; rw [Nat.max_def]; split <;> split <;> omega, (Hbel.out.alloc hszr _).trans (hb2.mono (by simp; omega))⟩, by simp only [intOf]; omega⟩
          · have e2 : ((fwire : Int) == 2) = false := beq_eq_false_iff_ne.2 (by omega)
            have hD := Hsn.out
            rw [if_neg hw] at hD
            have HD := Lib.hid hD
            clear hw hD
            go_wp2_with fail
            exact ⟨⟨i + 1, by omega, by go_num, by rw [HD.out], hbel.alloc hszr _⟩, by simp only [intOf]; omega⟩
        · obtain rfl : i = mm := by omega
          have htk : (ps.map FA.f).take i = ps.map FA.f := List.take_of_length_le (by rw [List.length_map, Hml.out]; omega)
          rw [htk]
          clear htk
          go_wp2_with fail
          go_ret
          exact ⟨rfl, Hb1.out.trans (hbel.mono Hb1.out.size)⟩
    · rw [if_pos her] at hds
      subst hds
      have hne : ((er : Int) != 0) = true := by simp; omega
      go_enter Try.func36, Try.ntmps36
      go_wp2_with fail
      refine Hpp.out.mono ?_
      rintro e w1 ⟨F, mm, cF, ps, rfl, hfl, hps, hb1⟩
      clear hfl hps
      go_wp2_with fail
      go_ret
      exact ⟨rfl, hb1⟩
end Go.Proofs.Ytihclbiohljmlaa
