/- rle2's Patch: its walk. -/
import Derived.Test.YtehcbgnoiogncaaRunPat
namespace Go.Proofs.Ytehcbgnoiogncaa
open Go.RowKit
open PackMath
set_option linter.unusedVariables false

theorem fitF_bd (n : Int) : 0 ≤ fitF n ∧ fitF n ≤ 64 := by
  unfold fitF
  split
  · exact widthF_bd _
  · omega
/-- A base put to one number. -/
def baseU (sg : Bool) (base : Int) (u : Nat) : Option Int := if 9223372036854775807 < u then none else putS sg base (u : Int)
theorem baseL_cons (sg : Bool) (base : Int) (u : Nat) (l : List Nat) : baseL sg base (u :: l) = match baseU sg base u with | none => none | some s => match baseL sg base l with | none => none | some r => some (s :: r) := by
  conv => lhs; unfold baseL
  unfold baseU putS
  by_cases h : 9223372036854775807 < u
  · rw [if_pos h, if_pos h]
  · rw [if_neg h, if_neg h]
    cases addS base (u : Int) with
    | none => rfl
    | some s =>
      dsimp only
      by_cases h2 : sg = false ∧ s < 0
      · rw [if_pos h2, if_pos h2]
      · rw [if_neg h2, if_neg h2]
        cases baseL sg base l <;> rfl
theorem own_form {w : World} {base : Nat} {e : TypeId} {size n cap : Nat} {A : Option Addr} {xs : List Value} (h : w.ownsRow base e size (.slice A n cap) n xs) (hn : 0 < n) : ∃ g, A = some ⟨g, 0, none⟩ := by
  rcases h.2 with ⟨h', _⟩ | ⟨g', cap', cur, h', _⟩
  · injection h' with h1 h2 h3
    omega
  · injection h' with h1 h2 h3
    exact ⟨g', h1⟩
theorem RdTo.low {w w1 w2 : World} {g : Nat} {A : Option Addr} {n c : Nat} {bs : List Nat} {p : Nat} {sg : Bool} {B0 : Nat} (t : RdTo w g A n c bs p sg w1) (hg : g < B0) (hA : ∀ ad, A = some ad → ad.block < B0) (hw : w.heap.size ≤ B0) (b : Below B0 w1 w2) : RdTo w g A n c bs p sg w2 :=
  ⟨⟨(b.block g hg).trans t.1.box, ⟨t.1.sl.len, t.1.sl.le, t.1.sl.max, t.1.sl.nil, (fun ad hA' j u hu => by
      have hc := t.1.sl.cells ad hA' j u hu
      rw [b.cell (p := ad.add j) (by have := hA ad hA'; unfold Addr.add; split <;> exact this)]
      exact hc), t.1.sl.one⟩, t.1.ne, t.1.b8, t.1.few, t.1.le⟩,
    b.os.trans t.2.os, b.tape.trans t.2.tape, b.output.trans t.2.output, Nat.le_trans t.2.size b.size, fun k hk hne => (b.block k (Nat.lt_of_lt_of_le hk hw)).trans (t.2.block k hk hne)⟩
theorem baseL_snoc (sg : Bool) (base : Int) (a : List Nat) (u : Nat) (pre : List Int) (v : Int) (h : baseL sg base a = some pre) (hv : baseU sg base u = some v) : baseL sg base (a ++ [u]) = some (pre ++ [v]) := by
  induction a generalizing pre with
  | nil => simp [baseL] at h; subst h; rw [List.nil_append, baseL_cons, hv]; rfl
  | cons x a ih =>
    rw [baseL_cons] at h
    rw [List.cons_append, baseL_cons]
    cases hx : baseU sg base x with
    | none => rw [hx] at h; cases h
    | some y =>
      rw [hx] at h
      cases ha : baseL sg base a with
      | none => rw [ha] at h; cases h
      | some r =>
        rw [ha] at h
        injection h with h
        subst h
        rw [ih r ha]
        rfl
theorem baseL_none (sg : Bool) (base : Int) (a : List Nat) (u : Nat) (b : List Nat) (hv : baseU sg base u = none) : baseL sg base (a ++ u :: b) = none := by
  induction a with
  | nil => rw [List.nil_append, baseL_cons, hv]
  | cons x a ih =>
    rw [List.cons_append, baseL_cons]
    cases hx : baseU sg base x with
    | none => rfl
    | some y => rw [ih]
theorem top_bit (V s : Nat) (hV : V < 2 ^ (s + 1)) : V.testBit s = decide (2 ^ s ≤ V) := by
  by_cases h : 2 ^ s ≤ V
  · rw [decide_eq_true h]
    have e : V = 2 ^ s + (V - 2 ^ s) := by omega
    have hlt : V - 2 ^ s < 2 ^ s := by rw [Nat.pow_succ] at hV; omega
    rw [e, Nat.testBit_two_pow_add_eq, Nat.testBit_lt_two_pow hlt]
    rfl
  · rw [decide_eq_false h]
    exact Nat.testBit_lt_two_pow (by omega)
theorem top_mod (V s : Nat) (hV : V < 2 ^ (s + 1)) : V % 2 ^ s = if 2 ^ s ≤ V then V - 2 ^ s else V := by
  by_cases h : 2 ^ s ≤ V
  · rw [if_pos h, Nat.mod_eq_sub_mod h, Nat.mod_eq_of_lt (by rw [Nat.pow_succ] at hV; omega)]
  · rw [if_neg h, Nat.mod_eq_of_lt (by omega)]
theorem andnot_top (V s : Nat) (hV : V < 2 ^ (s + 1)) (hs : s ≤ 63) : bits .andNot .u64 (V : Int) (IntKind.u64.wrap (2 ^ s)) = ((V % 2 ^ s : Nat) : Int) := by
  have hp : (2 : Nat) ^ s ≤ 9223372036854775808 := pow_le64 s hs
  have e : IntKind.u64.wrap (2 ^ s) = ((2 ^ s : Nat) : Int) := by
    rw [IntKind.wrap_u64]
    have : ((2 : Int) ^ s) = ((2 ^ s : Nat) : Int) := by simp
    rw [this]
    omega
  rw [e]
  show IntKind.u64.wrap ((BitVec.ofInt 64 (V : Int) &&& ~~~ BitVec.ofInt 64 ((2 ^ s : Nat) : Int)).toNat : Int) = _
  have hm : V % 2 ^ s < 2 ^ s := Nat.mod_lt _ (Nat.two_pow_pos s)
  have h : (BitVec.ofInt 64 (V : Int) &&& ~~~ BitVec.ofInt 64 ((2 ^ s : Nat) : Int)).toNat = V % 2 ^ s := by
    apply Nat.eq_of_testBit_eq
    intro i
    rw [BitVec.testBit_toNat, BitVec.getLsbD_and, BitVec.getLsbD_not, BitVec.ofInt_natCast, BitVec.ofInt_natCast, BitVec.getLsbD_ofNat, BitVec.getLsbD_ofNat, Nat.testBit_mod_two_pow, Nat.testBit_two_pow]
    rcases Nat.lt_trichotomy i s with h1 | h1 | h1
    · simp [h1, show i < 64 from by omega, show s ≠ i from by omega]
    · subst h1
      simp
    · rw [Nat.testBit_lt_two_pow (x := V) (Nat.lt_of_lt_of_le hV (Nat.pow_le_pow_right (by decide) h1))]
      simp
  rw [h, IntKind.wrap_u64]
  omega
theorem and_top (V s : Nat) (hV : V < 2 ^ (s + 1)) (hs : s ≤ 63) : bits .and .u64 (V : Int) (IntKind.u64.wrap (2 ^ s)) = ((if 2 ^ s ≤ V then 2 ^ s else 0 : Nat) : Int) := by
  have hp : (2 : Nat) ^ s ≤ 9223372036854775808 := pow_le64 s hs
  have e : IntKind.u64.wrap (2 ^ s) = ((2 ^ s : Nat) : Int) := by
    rw [IntKind.wrap_u64]
    have : ((2 : Int) ^ s) = ((2 ^ s : Nat) : Int) := by simp
    rw [this]
    omega
  have hV64 : V < 18446744073709551616 := by rw [Nat.pow_succ] at hV; omega
  rw [e, bits_and_u64 _ _ hV64 (by omega)]
  congr 1
  apply Nat.eq_of_testBit_eq
  intro i
  rw [Nat.testBit_and, Nat.testBit_two_pow]
  by_cases hi : s = i
  · subst hi
    rw [top_bit V s hV]
    by_cases h : 2 ^ s ≤ V
    · rw [if_pos h, decide_eq_true h, Nat.testBit_two_pow]; simp
    · rw [if_neg h, decide_eq_false h]; simp
  · by_cases h : 2 ^ s ≤ V
    · rw [if_pos h, Nat.testBit_two_pow]; simp [hi]
    · rw [if_neg h]; simp [hi]
theorem baseOf_eq (V q : Nat) (hV : V < 2 ^ (8 * (q + 1))) : baseOf V (q + 1) = if 2 ^ (8 * (q + 1) - 1) ≤ V then -((V % 2 ^ (8 * (q + 1) - 1) : Nat) : Int) else ((V % 2 ^ (8 * (q + 1) - 1) : Nat) : Int) := by
  unfold baseOf
  rw [top_mod V (8 * (q + 1) - 1) (by rw [show 8 * (q + 1) - 1 + 1 = 8 * (q + 1) from by omega]; exact hV)]
  by_cases h : 2 ^ (8 * (q + 1) - 1) ≤ V
  · rw [if_pos h, if_pos h, if_pos h]
  · rw [if_neg h, if_neg h, if_neg h]
set_option maxHeartbeats 6400000 in
set_option maxRecDepth 4000 in
theorem rdpatch_main {w : World} {g : Nat} {A : Option Addr} {n c : Nat} {bs : List Nat} {p : Nat} {sg : Bool} (h : Rd w g A n c bs p sg) (h4 : ¬ n < p + 4) :
    Calls Try.prog 26 #[.pointer (some ⟨g, 0, none⟩)] w fun e w' => KdOut w g A n c bs p sg (patchS bs p sg) e w' := by
  have hn := h.len
  have HH := Lib.hid (rdhead_ok h (by omega))
  have hk1 := hdCount_le h p
  have hB1 := fun w' (h' : Rd w' g A n c bs (p + 2) sg) => rdbyte_ok h' (by omega)
  have hB2 := fun w' (h' : Rd w' g A n c bs (p + 2 + 1) sg) => rdbyte_ok h' (by omega)
  obtain ⟨c0, hc0⟩ : ∃ c0, bs.getD (p + 2) 0 = c0 := ⟨_, rfl⟩
  obtain ⟨d0, hd0⟩ : ∃ d0, bs.getD (p + 3) 0 = d0 := ⟨_, rfl⟩
  have hc8 : c0 < 256 := by rw [← hc0]; exact h.x8 _
  have hd8 : d0 < 256 := by rw [← hd0]; exact h.x8 _
  simp only [hc0] at hB1
  simp only [show p + 2 + 1 = p + 3 from rfl, hd0] at hB2
  have hcastW := widN_cast (c0 % 32)
  have hcastC := widN_cast (hdCode bs p)
  have hbt64 := widN_le (c0 % 32)
  have hwd64 := widN_le (hdCode bs p)
  obtain ⟨bt, hbt⟩ : ∃ bt, widN (c0 % 32) = bt := ⟨_, rfl⟩
  obtain ⟨wd, hwd⟩ : ∃ wd, widN (hdCode bs p) = wd := ⟨_, rfl⟩
  obtain ⟨k, hk⟩ : ∃ k, hdCount bs p = k := ⟨_, rfl⟩
  obtain ⟨wp, hwp⟩ : ∃ wp, (fitF ((bt + (d0 / 32 + 1) : Nat) : Int)).toNat = wp := ⟨_, rfl⟩
  obtain ⟨m, hm⟩ : ∃ m, d0 % 32 = m := ⟨_, rfl⟩
  obtain ⟨V, hV⟩ : ∃ V, bigV ((bs.drop (p + 4)).take (c0 / 32 + 1)) 0 = V := ⟨_, rfl⟩
  obtain ⟨base, hbase⟩ : ∃ b, baseOf V (c0 / 32 + 1) = b := ⟨_, rfl⟩
  have hR := patchS_eq bs p sg c0 d0 bt k wd m wp base hc0 hd0 hbt hwd hk hwp hm (by rw [hV, hbase])
  rw [if_neg (by omega), hn] at hR
  have hfb := fitF_bd ((bt + (d0 / 32 + 1) : Nat) : Int)
  have hcastF : fitF ((bt + (d0 / 32 + 1) : Nat) : Int) = (wp : Int) := by omega
  have hwp64 : wp ≤ 64 := by omega
  rw [hbt] at hcastW hbt64
  rw [hwd] at hcastC hwd64
  rw [hk] at hk1
  generalize patchS bs p sg = R at *
  have HW1 := Lib.hid (fun w' => (hcastW ▸ width_p ((c0 % 32 : Nat) : Int) w' : Calls Try.prog 34 #[.int .i64 ((c0 % 32 : Nat) : Int)] w' fun e w'' => e = .returned (.int .i64 (bt : Int)) ∧ Below w'.heap.size w' w''))
  have HW2 := Lib.hid (fun w' => (hcastC ▸ width_p (hdCode bs p : Int) w' : Calls Try.prog 34 #[.int .i64 (hdCode bs p : Int)] w' fun e w'' => e = .returned (.int .i64 (wd : Int)) ∧ Below w'.heap.size w' w''))
  have HF := Lib.hid (fun w' => (hcastF ▸ fit_p ((bt + (d0 / 32 + 1) : Nat) : Int) w' : Calls Try.prog 35 #[.int .i64 ((bt + (d0 / 32 + 1) : Nat) : Int)] w' fun e w'' => e = .returned (.int .i64 (wp : Int)) ∧ Below w'.heap.size w' w''))
  have e1 := and_i64_31 c0 hc8
  have e2 := and_i64_31 d0 hd8
  rw [hm] at e2
  generalize hdCode bs p = co at *
  rw [hk] at HH
  have hcq : c0 / 32 ≤ 7 := by omega
  have hdq : d0 / 32 ≤ 7 := by omega
  obtain ⟨cq, hcq'⟩ : ∃ x, c0 / 32 = x := ⟨_, rfl⟩
  obtain ⟨dq, hdq'⟩ : ∃ x, d0 / 32 = x := ⟨_, rfl⟩
  obtain ⟨cm, hcm'⟩ : ∃ x, c0 % 32 = x := ⟨_, rfl⟩
  have e3 : (c0 : Int) / 32 = (cq : Int) := by omega
  have e4 : (d0 : Int) / 32 = (dq : Int) := by omega
  rw [hcq'] at hR hV hbase hcq
  rw [hdq'] at hR HF hdq
  rw [hcm'] at e1 HW1
  have hm31 : m ≤ 31 := by omega
  have hV64 : V < 2 ^ (8 * (cq + 1)) := by
    rw [← hV]
    have h1 := bigV_lt ((bs.drop (p + 4)).take (cq + 1)) 0 0 (by decide) (fun x hx => h.b8 x (List.mem_of_mem_drop (List.mem_of_mem_take hx)))
    rw [List.length_take, List.length_drop, Nat.zero_add] at h1
    have h2 : 256 ^ (min (cq + 1) (bs.length - (p + 4))) ≤ 256 ^ (cq + 1) := Nat.pow_le_pow_right (by decide) (Nat.min_le_left _ _)
    have h3 : 2 ^ (8 * (cq + 1)) = 256 ^ (cq + 1) := Nat.pow_mul 2 8 (cq + 1)
    rw [h3]
    exact Nat.lt_of_lt_of_le h1 h2
  have HR := Lib.hid hR
  have HB1 := Lib.hid hB1
  have HB2 := Lib.hid hB2
  have HV := Lib.hid hV
  have Hbase := Lib.hid hbase
  have HV64 := Lib.hid hV64
  have Hh4 := Lib.hid h4
  have e1' : bits .and .i64 (c0 : Int) 31 = (cm : Int) := e1
  have e2' : bits .and .i64 (d0 : Int) 31 = (m : Int) := e2
  obtain ⟨hk0, hk512⟩ := hk1
  clear hR hB1 hB2 hV hbase hV64 h4 e1 e2 hc0 hd0 hbt hwd hk hwp hm hcastW hcastC hcastF hfb hcq' hdq' hcm' hn h
  go_enter Try.func26, Try.ntmps26
  go_wp2_with fail
  refine HH.out.mono ?_
  rintro e w1 ⟨rfl, t1⟩
  have T1 := Lib.hid t1
  clear t1
  go_wp2_with fail
  refine (HB1.out _ T1.out.1).mono ?_
  rintro e w2 ⟨rfl, t2⟩
  have T2 := Lib.hid (T1.out.trans t2)
  clear t2
  go_wp2_with fail
  refine (HB2.out _ T2.out.1).mono ?_
  rintro e w3 ⟨rfl, t3⟩
  have T3 := Lib.hid (T2.out.trans t3)
  clear t3
  go_wp2_with fail
  refine (HW1.out _).mono ?_
  rintro e w4 ⟨rfl, b4⟩
  have T4 := Lib.hid (T3.out.below b4)
  clear b4
  by_cases h64 : 64 < bt + (dq + 1)
  · have e := HR.out
    rw [if_pos h64] at e
    subst e
    have h64i : (64 : Int) < (bt : Int) + ((dq : Int) + 1) := by omega
    go_wp2_with fail
    go_ret2
    exact kd_bad 2 (by decide) T4.out
  · have e := HR.out
    rw [if_neg h64] at e
    have HR2 := Lib.hid e
    have h64i : ¬ (64 : Int) < (bt : Int) + ((dq : Int) + 1) := by omega
    clear e HR h64
    go_wp2_with fail
    by_cases h5 : n < p + 4 + (cq + 1)
    · have e := HR2.out
      rw [if_pos h5] at e
      subst e
      have HN := Lib.hid (rdbig_no T4.out.1 (cq + 1) (by omega) (by omega) h5)
      clear h5
      refine HN.out.mono ?_
      rintro e w5 ⟨rfl, t5⟩
      have T5 := Lib.hid (T4.out.trans t5)
      clear t5
      go_wp2_with fail
      go_ret2
      exact kd_bad 3 (by decide) T5.out
    · have e := HR2.out
      rw [if_neg h5] at e
      have HR3 := Lib.hid e
      have hbg := rdbig_ok T4.out.1 (cq + 1) (by omega) (by omega) (by omega)
      rw [show p + 2 + 1 + 1 = p + 4 from rfl, HV.out] at hbg
      have HY := Lib.hid hbg
      have H5 := Lib.hid h5
      clear h5 hbg e HR2
      refine HY.out.mono ?_
      rintro e w5 ⟨rfl, t5⟩
      have T5 := Lib.hid (T4.out.trans t5)
      clear t5
      have hVs : V < 2 ^ (8 * (cq + 1) - 1 + 1) := by rw [show 8 * (cq + 1) - 1 + 1 = 8 * (cq + 1) from by omega]; exact HV64.out
      have hbq := baseOf_eq V cq HV64.out
      rw [Hbase.out] at hbq
      have e5 := andnot_top V (8 * (cq + 1) - 1) hVs (by omega)
      have e6 := and_top V (8 * (cq + 1) - 1) hVs (by omega)
      have hVm : V % 2 ^ (8 * (cq + 1) - 1) < 9223372036854775808 := Nat.lt_of_lt_of_le (Nat.mod_lt _ (Nat.two_pow_pos _)) (pow_le64 _ (by omega))
      have htp : 0 < 2 ^ (8 * (cq + 1) - 1) := Nat.two_pow_pos _
      have hbI : InI base := by rw [hbq]; unfold InI; split <;> omega
      generalize V % 2 ^ (8 * (cq + 1) - 1) = Vm at *
      obtain ⟨X, hX⟩ : ∃ X : Nat, (if 2 ^ (8 * (cq + 1) - 1) ≤ V then 2 ^ (8 * (cq + 1) - 1) else 0) = X := ⟨_, rfl⟩
      rw [hX] at e6
      have hbX : base = if X = 0 then (Vm : Int) else -(Vm : Int) := by
        rw [hbq, ← hX]
        by_cases hh : 2 ^ (8 * (cq + 1) - 1) ≤ V
        · rw [if_pos hh, if_pos hh, if_neg (by omega)]
        · rw [if_neg hh, if_neg hh, if_pos rfl]
      clear hbq hX htp hVs
      have HbX := Lib.hid hbX
      clear hbX
      go_upto_if 78 with (fail)
      go_cut [15] (fun bv wx => bv = .int .i64 base ∧ wx = w5)
      case first =>
        by_cases hX0 : X = 0
        · have e := HbX.out
          rw [if_pos hX0] at e
          subst e hX0
          go_wp2_with fail
          go_meet
          case rel => exact ⟨rfl, rfl⟩
        · have e := HbX.out
          rw [if_neg hX0] at e
          subst e
          have hXb : ((X : Int) != 0) = true := by simp; omega
          go_wp2_with fail
          go_meet
          case rel => exact ⟨rfl, rfl⟩
      case rest =>
        obtain ⟨rfl, rfl⟩ := hcut
        clear e5 e6
        rw [show ((bt + (dq + 1) : Nat) : Int) = (bt : Int) + ((dq : Int) + 1) from by omega] at HF
        have hq : p + 4 + (cq + 1) ≤ n := by have := H5.out; omega
        obtain ⟨q, hqe⟩ : ∃ q, p + 4 + (cq + 1) = q := ⟨_, rfl⟩
        rw [hqe] at T5 HR3 hq
        have hj0 : q = p + (4 + (cq + 1)) := by omega
        obtain ⟨j0, hj0e⟩ : ∃ j, 4 + (cq + 1) = j := ⟨_, rfl⟩
        rw [hj0e] at HR3 hj0
        have HJ0 := Lib.hid hj0
        clear hqe hj0 hj0e HY H5
        go_wp2_with fail
        refine (HW2.out _).mono ?_
        rintro e w6 ⟨rfl, b6⟩
        have T6 := Lib.hid (T5.out.below b6)
        clear b6
        go_wp2_with fail
        by_cases h6 : n < q + nbytes (k * wd)
        · have e := HR3.out
          rw [if_pos h6] at e
          subst e
          refine (rdpk_no T6.out.1 k wd (by omega) hwd64 h6).mono ?_
          rintro e w7 ⟨A7, c7, rfl, s7, t7⟩
          have T7 := Lib.hid (T6.out.trans t7)
          clear s7 t7 h6
          go_wp2_with fail
          go_ret2
          exact kd_bad 3 (by decide) T7.out
        · have e := HR3.out
          rw [if_neg h6] at e
          have HR4 := Lib.hid e
          have HP := Lib.hid (rdpk_own T6.out.1 k wd (by omega) hwd64 (by omega))
          obtain ⟨X1, hX1⟩ : ∃ X, getSpec bs (8 * q) k wd = X := ⟨_, rfl⟩
          have hX1a := getSpec_u64 bs (8 * q) k wd hwd64
          have hX1l := getSpec_length bs (8 * q) k wd
          rw [hX1] at HP HR4 hX1a hX1l
          obtain ⟨nb, hnb⟩ : ∃ x, nbytes (k * wd) = x := ⟨_, rfl⟩
          rw [hnb] at HP HR4 h6
          have H6 := Lib.hid h6
          have HX1a := Lib.hid hX1a
          have HX1l := Lib.hid hX1l
          clear e h6 HR3 hX1 hX1a hX1l hnb
          refine HP.out.mono ?_
          rintro e w7 ⟨A7, c7, rfl, o7, t7⟩
          have T7 := Lib.hid (T6.out.trans t7)
          have hsz7 := t7.2.size
          obtain ⟨g7, rfl⟩ : ∃ g7, A7 = some ⟨g7, 0, none⟩ := own_form o7 (by omega)
          have hg7 := o7.lt g7 rfl
          have O7 := Lib.hid o7
          clear o7 t7 HP
          go_wp2_with fail
          refine (HF.out _).mono ?_
          rintro e w8 ⟨rfl, b8⟩
          have T8 := Lib.hid (T7.out.below b8)
          have O8 := Lib.hid (World.ownsRow.below O7.out b8)
          have hsz8 := b8.size
          clear b8
          go_wp2_with fail
          by_cases h7 : n < q + nb + nbytes (m * wp)
          · have e := HR4.out
            rw [if_pos h7] at e
            subst e
            refine (rdpk_no T8.out.1 m wp (by omega) hwp64 h7).mono ?_
            rintro e w9 ⟨A9, c9, rfl, s9, t9⟩
            have T9 := Lib.hid (T8.out.trans t9)
            clear s9 t9 h7
            go_wp2_with fail
            go_ret2
            exact kd_bad 3 (by decide) T9.out
          · have e := HR4.out
            rw [if_neg h7] at e
            have HR5 := Lib.hid e
            have HP := Lib.hid (rdpk_own T8.out.1 m wp (by omega) hwp64 (by omega))
            obtain ⟨Y1, hY1⟩ : ∃ X, getSpec bs (8 * (q + nb)) m wp = X := ⟨_, rfl⟩
            have hY1a := getSpec_u64 bs (8 * (q + nb)) m wp hwp64
            rw [hY1] at HP HR5 hY1a
            obtain ⟨nb2, hnb2⟩ : ∃ x, nbytes (m * wp) = x := ⟨_, rfl⟩
            rw [hnb2] at HP HR5 h7
            have H7 := Lib.hid h7
            have HY1a := Lib.hid hY1a
            clear e h7 HR4 hY1 hY1a hnb2
            refine HP.out.mono ?_
            rintro e w9 ⟨A9, c9, rfl, o9, t9⟩
            have T9 := Lib.hid (T8.out.trans t9)
            have hsz9 := t9.2.size
            obtain ⟨hg7a, hg7b⟩ := hg7
            have hgl := T6.out.1.lt
            have O9 := Lib.hid (O8.out.kept t9.2 (.inr (fun hh => by
              have hh2 : some g7 = some g := hh
              injection hh2 with hh2
              omega)))
            have SY := Sl.of_own o9 (nats_one _ _)
            obtain ⟨A9', c9', hv9, s9⟩ := SY
            injection hv9 with v1 v2 v3
            subst v1 v3
            have hne9 : ∀ bd, A9 = some bd → bd.block ≠ g7 := fun bd hbd => by
              subst hbd
              have hl9 := o9.lt bd.block rfl
              omega
            have S9 := Lib.hid s9
            have Hne9 := Lib.hid hne9
            clear o9 t9 s9 hne9 HP
            go_wp2_with fail
            refine (HW2.out _).mono ?_
            rintro e w10 ⟨rfl, b10⟩
            have T10 := Lib.hid (T9.out.below b10)
            have O10 := Lib.hid (World.ownsRow.below O9.out b10)
            have S10 := Lib.hid (S9.out.keep b10)
            have hsz10 := b10.size
            clear b10
            have hbt63 : bt ≤ 63 := by omega
            go_wp2_with fail
            refine (lay_p w6.heap.size g7 k c7 X1 A9 m c9 Y1 wd bt w10 O10.out S10.out Hne9.out HX1a.out HY1a.out (by omega) (by omega) hbt63 hwd64 hm31 (by omega)).mono ?_
            rintro e w11 hlay
            obtain ⟨hlb, hlr⟩ := hlay
            have hA6 : ∀ ad, A = some ad → ad.block < w6.heap.size := fun ad had => by
              obtain ⟨b, off, h1, _, h2, _⟩ := T6.out.1.at_ (by have := Hh4.out; omega)
              rw [had] at h1
              injection h1 with h1
              subst h1
              exact h2
            have T11 := Lib.hid (T10.out.low hgl hA6 T6.out.2.size hlb)
            have HLb := Lib.hid hlb
            clear hlb hA6
            cases hlay : layS wd bt X1 Y1 0 with
            | none =>
              rw [hlay] at hlr
              have e1 := HR5.out
              rw [hlay] at e1
              subst e1
              clear hlay
              dsimp only at hlr
              subst hlr
              go_wp2_with fail
              go_ret2
              exact kd_bad 2 (by decide) T11.out
            | some L =>
              rw [hlay] at hlr
              have e1 := HR5.out
              rw [hlay] at e1
              dsimp only at hlr e1
              obtain ⟨rfl, hLl, hLa, oL⟩ := hlr
              have HR6 := Lib.hid e1
              have HLa := Lib.hid hLa
              have HLl := Lib.hid hLl
              have SL := Lib.hid (Sl.of_own_at oL (nats_one _ _))
              clear hlay hLa hLl oL e1 HR5
              obtain ⟨i0, hi, hz0, hz1, hz2⟩ := info_parts Try.info2
              go_wp2_with (at_make; refine wpList_make_full _ rfl _ _ 25 rfl w11.heap.size 2 i0 (.int .i64 0) 1 Try.underlying25 hi hz0 hz1 .i64 .i64 _ _ k rfl rfl rfl rfl ?b2 ?b3 ?b4 ?_)
              case b2 => rw [hz2]; omega
              case b3 => unfold maxLen; omega
              case b4 => exact Nat.le_refl _
              intro w12 hown hgrow
              rw [toList_madeCells_one, show List.replicate k (Value.int .i64 0) = ints .i64 ([] ++ List.replicate (k - 0) 0) from by simp [ints]] at hown
              have hbel : Below w11.heap.size w11 w12 := (Below.refl _ _).grown hgrow (Nat.le_refl _) (fun k hk => by cases hk)
              have Hown := Lib.hid hown
              have Hbel := Lib.hid hbel
              clear hown hgrow hbel
              obtain ⟨b3, o3, hb3e, hb3, hcell⟩ := SL.out.at_ (by omega)
              injection hb3e with hb3e
              injection hb3e with hb3e hb3f
              subst hb3e hb3f
              have Hc := Lib.hid hcell
              clear hcell
              go_wp2_with fail
              go_loopw [117] (fun iv wr => ∃ (i : Nat) (pre : List Int), i ≤ k ∧ iv = .int .i64 (i : Int) ∧ Hid (baseL sg base (L.take i) = some pre) ∧ Hid (pre.length = i) ∧ Hid (wr.ownsRow w11.heap.size 2 1 (.slice (some ⟨w11.heap.size, 0, none⟩) k k) k (ints .i64 (pre ++ List.replicate (k - i) 0))) ∧ Hid (Below w11.heap.size w11 wr)) (fun iv _ => k - (intOf iv).toNat)
              case atStart => exact ⟨0, [], Nat.zero_le _, rfl, Lib.hid (by simp [baseL]), Lib.hid rfl, Hown, Hbel⟩
              case round =>
                obtain ⟨i, pre, hi', rfl, Hpre, Hplen, Ho, Hb⟩ := hrel
                by_cases hlt : i < k
                · obtain ⟨u, hu⟩ : ∃ u, u = L.getD i 0 := ⟨_, rfl⟩
                  have hxi : i < L.length := by rw [HLl.out]; exact hlt
                  have hu64 : u < 18446744073709551616 := by rw [hu, getD_eq _ _ hxi]; exact HLa.out _ (List.getElem_mem _)
                  have hcu : wr.cell? ⟨g7, 0 + i, none⟩ = some (.int .u64 (u : Int)) := by
                    rw [Hb.out.cell (p := ⟨g7, 0 + i, none⟩) hb3, Hc.out _ hlt, nats_getD _ _ _ hxi, hu]
                  rw [Nat.zero_add] at hcu
                  have hsplit : L = L.take i ++ u :: L.drop (i + 1) := by
                    rw [hu, getD_eq _ _ hxi, ← List.drop_eq_getElem_cons hxi, List.take_append_drop]
                  have hsn : L.take (i + 1) = L.take i ++ [u] := by
                    rw [hu, getD_eq _ _ hxi, List.take_add_one, List.getElem?_eq_getElem hxi]; rfl
                  have Hu := Lib.hid hu
                  have Hsplit := Lib.hid hsplit
                  have Hsn := Lib.hid hsn
                  clear hu hxi hsplit hsn
                  have TR := Lib.hid (T11.out.below Hb.out)
                  by_cases hbig : 9223372036854775807 < u
                  · have Hnn := Lib.hid (show baseL sg base L = none from by
                      rw [Hsplit.out]; exact baseL_none _ _ _ _ _ (by unfold baseU; rw [if_pos hbig]))
                    have hbg2 : ¬ (u : Int) ≤ 9223372036854775807 := by omega
                    have ew : wrap64 (u : Int) = (u : Int) - 18446744073709551616 := wrap_hi _ (by omega) (by omega)
                    have EW := Lib.hid ew
                    clear ew
                    go_wp2_with fail
                    rw [EW.out]
                    have hdI : InI ((u : Int) - 18446744073709551616) := by unfold InI; omega
                    cases hps : putS sg base ((u : Int) - 18446744073709551616) with
                    | none =>
                      have Hno := Lib.hid (rdput_no TR.out.1 base _ hbI hdI hps)
                      clear hps
                      refine Hno.out.mono ?_
                      rintro e w13 ⟨⟨z, rfl⟩, rfl⟩
                      go_wp2_with fail
                      go_ret2
                      rw [HR6.out, Hnn.out]
                      exact kd_bad 2 (by decide) TR.out
                    | some s =>
                      have Hyes := Lib.hid (rdput_ok TR.out.1 base _ hbI hdI s hps)
                      clear hps
                      refine Hyes.out.mono ?_
                      rintro e w13 ⟨rfl, rfl⟩
                      go_wp2_with fail
                      go_ret2
                      rw [HR6.out, Hnn.out]
                      exact kd_bad 2 (by decide) TR.out
                  · have hdI : InI (u : Int) := by unfold InI; omega
                    have hbg2 : (u : Int) ≤ 9223372036854775807 := by omega
                    cases hps : putS sg base (u : Int) with
                    | none =>
                      have Hnn := Lib.hid (show baseL sg base L = none from by
                        rw [Hsplit.out]; exact baseL_none _ _ _ _ _ (by unfold baseU; rw [if_neg hbig, hps]))
                      have Hno := Lib.hid (rdput_no TR.out.1 base _ hbI hdI hps)
                      clear hps
                      go_wp2_with fail
                      refine Hno.out.mono ?_
                      rintro e w13 ⟨⟨z, rfl⟩, rfl⟩
                      go_wp2_with fail
                      go_ret2
                      rw [HR6.out, Hnn.out]
                      exact kd_bad 2 (by decide) TR.out
                    | some s =>
                      have Hv := Lib.hid (show baseU sg base u = some s from by unfold baseU; rw [if_neg hbig, hps])
                      have Hyes := Lib.hid (rdput_ok TR.out.1 base _ hbI hdI s hps)
                      clear hps
                      have hox := Ho.out.cellAt i (by omega)
                      rw [ints, List.getElem?_map, List.getElem?_append_right (by rw [Hplen.out]; exact Nat.le_refl _), Hplen.out, Nat.sub_self, List.getElem?_replicate, if_pos (by omega), Option.map_some] at hox
                      have hfx : wr.frozen? ⟨w11.heap.size, i, none⟩ = false := Ho.out.frozenAt i
                      have hox' : wr.cell? ⟨w11.heap.size, i, none⟩ = some (.int .i64 0) := hox
                      clear hox
                      go_wp2_with fail
                      refine Hyes.out.mono ?_
                      rintro e w13 ⟨rfl, rfl⟩
                      go_wp2_with fail
                      refine ⟨⟨i + 1, pre ++ [s], by omega, by go_num, Lib.hid ?_, Lib.hid ?_, Lib.hid ?_, Lib.hid ?_⟩, by simp only [intOf]; omega⟩
                      · rw [Hsn.out]; exact baseL_snoc _ _ _ _ _ _ Hpre.out Hv.out
                      · rw [List.length_append, Hplen.out]; rfl
                      · have hst := (Ho.out.stored i (.int .i64 s)).1
                        have e : (ints .i64 (pre ++ List.replicate (k - i) 0)).set i (.int .i64 s) = ints .i64 (pre ++ [s] ++ List.replicate (k - (i + 1)) 0) := by
                          rw [show k - i = k - (i + 1) + 1 from by omega, List.replicate_succ]
                          unfold ints
                          rw [← List.map_set, List.set_append, if_neg (by rw [Hplen.out]; omega), Hplen.out, Nat.sub_self, List.set_cons_zero]
                          simp
                        rw [e] at hst
                        exact hst
                      · exact Hb.out.setCell (Nat.le_refl _) _
                · have hik : i = k := by omega
                  subst hik
                  have ho := Ho.out
                  rw [Nat.sub_self, List.replicate_zero, List.append_nil] at ho
                  have S5 := Lib.hid (Sl.of_own_at ho (ints_one _ _))
                  clear ho
                  go_wp2_with fail
                  go_ret2
                  have hfull : baseL sg base L = some pre := by
                    have := Hpre.out
                    rwa [List.take_of_length_le (by rw [HLl.out]; exact Nat.le_refl _)] at this
                  rw [HR6.out, hfull]
                  exact kd_ok S5.out (T11.out.below Hb.out) (by have := HJ0.out; omega)
theorem rdpatch {w : World} {g : Nat} {A : Option Addr} {n c : Nat} {bs : List Nat} {p : Nat} {sg : Bool} (h : Rd w g A n c bs p sg) :
    Calls Try.prog 26 #[.pointer (some ⟨g, 0, none⟩)] w fun e w' => KdOut w g A n c bs p sg (patchS bs p sg) e w' := by
  by_cases h4 : n < p + 4
  · rw [show patchS bs p sg = badR 3 from by unfold patchS; rw [if_pos (by rw [h.len]; exact h4)]]
    exact rdpatch_short h h4
  · exact rdpatch_main h h4
/-- rle2.Run, of whatever kind. -/
theorem run_all (A : Option Addr) (n c : Nat) (bs : List Nat) (p : Nat) (sg : Bool) (w : World) (hs : Sl w A n c (nats .u8 bs)) (h8 : ∀ x ∈ bs, x < 256) (hp : p ≤ n) (hn : n ≤ 1000000000) :
    Calls Try.prog 19 #[.slice A n c, .int .i64 (p : Int), .bool sg] w fun e w' => RunOut w n p (runS bs p sg) e w' :=
  run_p A n c bs p sg w hs h8 hp hn fun w g h => rdpatch h
end Go.Proofs.Ytehcbgnoiogncaa
