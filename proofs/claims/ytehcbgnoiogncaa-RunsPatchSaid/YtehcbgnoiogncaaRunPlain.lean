/- rle2's Plain. -/
import Derived.Test.YtehcbgnoiogncaaRunShort
namespace Go.Proofs.Ytehcbgnoiogncaa
open Go.RowKit
open PackMath
set_option linter.unusedVariables false

theorem numL_snoc (sg : Bool) (a : List Nat) (u : Nat) (pre : List Int) (v : Int) (h : numL sg a = some pre) (hv : numS sg u = some v) : numL sg (a ++ [u]) = some (pre ++ [v]) := by
  induction a generalizing pre with
  | nil => simp [numL] at h; subst h; simp [numL, hv]
  | cons x a ih =>
    unfold numL at h
    rw [List.cons_append]
    unfold numL
    cases hx : numS sg x with
    | none => rw [hx] at h; cases h
    | some y =>
      rw [hx] at h
      cases ha : numL sg a with
      | none => rw [ha] at h; cases h
      | some r =>
        rw [ha] at h
        injection h with h
        subst h
        rw [ih r ha]
        rfl
theorem numL_none (sg : Bool) (a : List Nat) (u : Nat) (b : List Nat) (hv : numS sg u = none) : numL sg (a ++ u :: b) = none := by
  induction a with
  | nil => rw [List.nil_append]; unfold numL; rw [hv]
  | cons x a ih =>
    rw [List.cons_append]
    unfold numL
    cases hx : numS sg x with
    | none => rfl
    | some y => rw [ih]
theorem numL_len (sg : Bool) (a : List Nat) (pre : List Int) (h : numL sg a = some pre) : pre.length = a.length := by
  induction a generalizing pre with
  | nil => simp [numL] at h; subst h; rfl
  | cons x a ih =>
    unfold numL at h
    cases hx : numS sg x with
    | none => rw [hx] at h; cases h
    | some y =>
      rw [hx] at h
      cases ha : numL sg a with
      | none => rw [ha] at h; cases h
      | some r =>
        rw [ha] at h
        injection h with h
        subst h
        rw [List.length_cons, List.length_cons, ih r ha]
theorem bytesF_nat (k wd : Nat) (hk : k ≤ 1048576) (hw : wd ≤ 64) : bytesF (k : Int) (wd : Int) = ((nbytes (k * wd) : Nat) : Int) := by
  unfold bytesF nbytes
  rw [if_neg (by omega)]
  have : ((k : Int) * (wd : Int)) = ((k * wd : Nat) : Int) := by simp
  rw [this]; omega
theorem getE_short (n p k wd : Nat) (hk : k ≤ 1048576) (hw : wd ≤ 64) (hp : p ≤ n) (h : n < p + nbytes (k * wd)) : getE (n : Int) (p : Int) (k : Int) (wd : Int) = 3 := by
  unfold getE
  rw [if_neg (by omega), if_pos (by rw [bytesF_nat k wd hk hw]; omega)]
theorem getSpec_length (bs : List Nat) (base k wd : Nat) : (getSpec bs base k wd).length = k := by simp [getSpec]
theorem getSpec_u64 (bs : List Nat) (base k wd : Nat) (hw : wd ≤ 64) : ∀ x ∈ getSpec bs base k wd, x < 18446744073709551616 := by
  intro x hx
  simp only [getSpec, List.mem_map] at hx
  obtain ⟨i, _, rfl⟩ := hx
  exact Nat.lt_of_lt_of_le (numOf_lt wd _) (Nat.pow_le_pow_right (n := 2) (i := wd) (j := 64) (by decide) hw)
theorem widN_le (c : Nat) : widN c ≤ 64 := by
  have := widthF_bd (c : Int)
  unfold widN
  omega
theorem widN_cast (c : Nat) : widthF (c : Int) = (widN c : Int) := by
  have := widthF_bd (c : Int)
  unfold widN
  omega
theorem hdCount_le {w : World} {g : Nat} {A : Option Addr} {n c : Nat} {bs : List Nat} {p : Nat} {sg : Bool} (h : Rd w g A n c bs p sg) (j : Nat) : 1 ≤ hdCount bs j ∧ hdCount bs j ≤ 512 := by
  have := h.x8 j
  have := h.x8 (j + 1)
  unfold hdCount
  omega
/-- Packed numbers, read. -/
theorem rdpk_ok {w : World} {g : Nat} {A : Option Addr} {n c : Nat} {bs : List Nat} {p : Nat} {sg : Bool} (h : Rd w g A n c bs p sg) (k wd : Nat) (hk : k ≤ 1048576) (hw : wd ≤ 64) (hr : p + nbytes (k * wd) ≤ n) :
    Calls Try.prog 33 #[.pointer (some ⟨g, 0, none⟩), .int .i64 (k : Int), .int .i64 (wd : Int)] w fun e w' => PkOut w g A n c bs (p + nbytes (k * wd)) sg k (getSpec bs (8 * p) k wd) 0 e w' :=
  rdpacked h k wd k (nbytes (k * wd)) 0 _ hr fun w' s => by
    refine (get_ok A n c bs p k wd w' s h.b8 hw hk (by rw [bytesF_nat k wd hk hw]; omega) (by omega)).mono ?_
    rintro e w2 ⟨A2, c2, rfl, s2, b2⟩
    exact ⟨A2, c2, by rw [bytesF_nat k wd hk hw]; rfl, s2, b2⟩
theorem rdpk_no {w : World} {g : Nat} {A : Option Addr} {n c : Nat} {bs : List Nat} {p : Nat} {sg : Bool} (h : Rd w g A n c bs p sg) (k wd : Nat) (hk : k ≤ 1048576) (hw : wd ≤ 64) (hr : n < p + nbytes (k * wd)) :
    Calls Try.prog 33 #[.pointer (some ⟨g, 0, none⟩), .int .i64 (k : Int), .int .i64 (wd : Int)] w fun e w' => PkOut w g A n c bs (p + 0) sg 0 [] 3 e w' :=
  rdpacked h k wd 0 0 3 [] (by have := h.le; omega) fun w' s => by
    refine (get_short A n c _ p k wd w' s (by have := h.few; omega) (getE_short n p k wd hk hw h.le hr)).mono ?_
    rintro e w2 ⟨rfl, b2⟩
    exact ⟨none, 0, rfl, Sl.none_ _, b2⟩

set_option maxHeartbeats 3200000 in
set_option maxRecDepth 4000 in
theorem rdplain {w : World} {g : Nat} {A : Option Addr} {n c : Nat} {bs : List Nat} {p : Nat} {sg : Bool} (h : Rd w g A n c bs p sg) :
    Calls Try.prog 25 #[.pointer (some ⟨g, 0, none⟩)] w fun e w' => KdOut w g A n c bs p sg (plainS bs p sg) e w' := by
  have hn := h.len
  unfold plainS
  rw [hn]
  by_cases h2 : n < p + 2
  · rw [if_pos h2]
    have hN := rdhead_no h h2
    have HN := Lib.hid hN
    clear hN h hn h2
    go_enter Try.func25, Try.ntmps25
    go_wp2_with fail
    refine HN.out.mono ?_
    rintro e w1 ⟨x, y, p', rfl, t1⟩
    have T1 := Lib.hid t1
    clear t1
    go_wp2_with fail
    go_ret2
    exact kd_bad 3 (by decide) T1.out
  · rw [if_neg h2]
    have hH := rdhead_ok h (by omega)
    have hk1 := hdCount_le h p
    have hwd := widthF_bd (hdCode bs p : Int)
    have hcast := widN_cast (hdCode bs p)
    have hwl := widN_le (hdCode bs p)
    generalize hdCount bs p = k at *
    generalize hdCode bs p = co at *
    generalize widN co = wd at *
    have hW := fun w' => width_p (co : Int) w'
    rw [hcast] at hW
    have HH := Lib.hid hH
    have HW := Lib.hid hW
    have Hnb := Lib.hid (show nbytes (k * wd) = nbytes (k * wd) from rfl)
    clear hH hW hcast hwd h
    by_cases h3 : n < p + 2 + nbytes (k * wd)
    · rw [if_pos h3]
      have H3 := Lib.hid h3
      clear h3
      go_enter Try.func25, Try.ntmps25
      go_wp2_with fail
      refine HH.out.mono ?_
      rintro e w1 ⟨rfl, t1⟩
      have T1 := Lib.hid t1
      clear t1
      go_wp2_with fail
      refine (HW.out w1).mono ?_
      rintro e w2 ⟨rfl, b2⟩
      have T2 := Lib.hid (T1.out.below b2)
      clear b2
      go_wp2_with fail
      refine (rdpk_no T2.out.1 k wd (by omega) hwl H3.out).mono ?_
      rintro e w3 ⟨A3, c3, rfl, s3, t3⟩
      have T3 := Lib.hid (T2.out.trans t3)
      clear t3 s3
      go_wp2_with fail
      go_ret2
      exact kd_bad 3 (by decide) T3.out
    · rw [if_neg h3]
      have H3 := Lib.hid h3
      clear h3
      obtain ⟨xs, hxs⟩ : ∃ xs, getSpec bs (8 * (p + 2)) k wd = xs := ⟨_, rfl⟩
      have hxl : xs.length = k := by rw [← hxs]; exact getSpec_length _ _ _ _
      have hx64 : ∀ x ∈ xs, x < 18446744073709551616 := by rw [← hxs]; exact getSpec_u64 _ _ _ _ hwl
      rw [hxs]
      have HX := Lib.hid hxs
      have HX64 := Lib.hid hx64
      have HXl := Lib.hid hxl
      clear hxs hx64 hxl
      obtain ⟨i0, hi, hz0, hz1, hz2⟩ := info_parts Try.info2
      go_enter Try.func25, Try.ntmps25
      go_wp2_with fail
      refine HH.out.mono ?_
      rintro e w1 ⟨rfl, t1⟩
      have T1 := Lib.hid t1
      clear t1
      go_wp2_with fail
      refine (HW.out w1).mono ?_
      rintro e w2 ⟨rfl, b2⟩
      have T2 := Lib.hid (T1.out.below b2)
      clear b2
      go_wp2_with fail
      refine (rdpk_ok T2.out.1 k wd (by omega) hwl (by have := H3.out; omega)).mono ?_
      rw [HX.out]
      rintro e w3 ⟨A3, c3, rfl, s3, t3⟩
      have T3 := Lib.hid (T2.out.trans t3)
      have S3 := Lib.hid s3
      clear t3 s3
      go_wp2_with (at_make; refine wpList_make_full _ rfl _ _ 25 rfl w3.heap.size 2 i0 (.int .i64 0) 1 Try.underlying25 hi hz0 hz1 .i64 .i64 _ _ k rfl rfl rfl rfl ?b2 ?b3 ?b4 ?_)
      case b2 => rw [hz2]; omega
      case b3 => unfold maxLen; omega
      case b4 => exact Nat.le_refl _
      intro w4 hown hgrow
      rw [toList_madeCells_one, show List.replicate k (Value.int .i64 0) = ints .i64 ([] ++ List.replicate (k - 0) 0) from by simp [ints]] at hown
      have hbel : Below w3.heap.size w3 w4 := (Below.refl _ _).grown hgrow (Nat.le_refl _) (fun k hk => by cases hk)
      have Hown := Lib.hid hown
      have Hbel := Lib.hid hbel
      clear hown hgrow hbel
      obtain ⟨b3, o3, rfl, hb3, hcell⟩ := S3.out.at_ (by omega)
      have Hc := Lib.hid hcell
      clear hcell
      go_wp2_with fail
      go_loopw [37] (fun iv wr => ∃ (i : Nat) (pre : List Int), i ≤ k ∧ iv = .int .i64 (i : Int) ∧ Hid (numL sg (xs.take i) = some pre) ∧ Hid (pre.length = i) ∧ Hid (wr.ownsRow w3.heap.size 2 1 (.slice (some ⟨w3.heap.size, 0, none⟩) k k) k (ints .i64 (pre ++ List.replicate (k - i) 0))) ∧ Hid (Below w3.heap.size w3 wr)) (fun iv _ => k - (intOf iv).toNat)
      case atStart => exact ⟨0, [], Nat.zero_le _, rfl, Lib.hid (by simp [numL]), Lib.hid rfl, Hown, Hbel⟩
      case round =>
        obtain ⟨i, pre, hi', rfl, Hpre, Hplen, Ho, Hb⟩ := hrel
        by_cases hlt : i < k
        · obtain ⟨u, hu⟩ : ∃ u, u = xs.getD i 0 := ⟨_, rfl⟩
          have hxi : i < xs.length := by rw [HXl.out]; exact hlt
          have hu64 : u < 18446744073709551616 := by rw [hu, getD_eq _ _ hxi]; exact HX64.out _ (List.getElem_mem _)
          have hcu : wr.cell? ⟨b3, o3 + i, none⟩ = some (.int .u64 (u : Int)) := by
            rw [Hb.out.cell (p := ⟨b3, o3 + i, none⟩) hb3, Hc.out _ hlt, nats_getD _ _ _ hxi, hu]
          have hsplit : xs = xs.take i ++ u :: xs.drop (i + 1) := by
            rw [hu, getD_eq _ _ hxi, ← List.drop_eq_getElem_cons hxi, List.take_append_drop]
          have hsn : xs.take (i + 1) = xs.take i ++ [u] := by
            rw [hu, getD_eq _ _ hxi, List.take_add_one, List.getElem?_eq_getElem hxi]; rfl
          have Hu := Lib.hid hu
          have Hsplit := Lib.hid hsplit
          have Hsn := Lib.hid hsn
          clear hu hxi hsplit hsn
          have TR := Lib.hid (T3.out.below Hb.out)
          cases hv : numS sg u with
          | none =>
            have hno := rdnum_no TR.out.1 u hu64 hv
            have Hno := Lib.hid hno
            have Hv := Lib.hid hv
            clear hno hv
            go_wp2_with fail
            refine Hno.out.mono ?_
            rintro e w5 ⟨⟨z, rfl⟩, rfl⟩
            go_wp2_with fail
            go_ret2
            have hnn : numL sg xs = none := by rw [Hsplit.out]; exact numL_none _ _ _ _ Hv.out
            rw [hnn]
            exact kd_bad 2 (by decide) TR.out
          | some v =>
            have hyes := rdnum_ok TR.out.1 u hu64 v hv
            have Hyes := Lib.hid hyes
            have Hv := Lib.hid hv
            clear hyes hv
            have hox := Ho.out.cellAt i (by omega)
            rw [ints, List.getElem?_map, List.getElem?_append_right (by rw [Hplen.out]; exact Nat.le_refl _), Hplen.out, Nat.sub_self, List.getElem?_replicate, if_pos (by omega), Option.map_some] at hox
            have hfx : wr.frozen? ⟨w3.heap.size, i, none⟩ = false := Ho.out.frozenAt i
            have hox' : wr.cell? ⟨w3.heap.size, i, none⟩ = some (.int .i64 0) := hox
            clear hox
            go_wp2_with fail
            refine Hyes.out.mono ?_
            rintro e w5 ⟨rfl, rfl⟩
            go_wp2_with fail
            refine ⟨⟨i + 1, pre ++ [v], by omega, by go_num, Lib.hid ?_, Lib.hid ?_, Lib.hid ?_, Lib.hid ?_⟩, by simp only [intOf]; omega⟩
            · rw [Hsn.out]; exact numL_snoc _ _ _ _ _ Hpre.out Hv.out
            · rw [List.length_append, Hplen.out]; rfl
            · have hst := (Ho.out.stored i (.int .i64 v)).1
              have e : (ints .i64 (pre ++ List.replicate (k - i) 0)).set i (.int .i64 v) = ints .i64 (pre ++ [v] ++ List.replicate (k - (i + 1)) 0) := by
                rw [show k - i = k - (i + 1) + 1 from by omega, List.replicate_succ]
                unfold ints
                rw [← List.map_set, List.set_append, if_neg (by rw [Hplen.out]; omega), Hplen.out, Nat.sub_self, List.set_cons_zero]
                simp
              rw [e] at hst
              exact hst
            · exact Hb.out.setCell (Nat.le_refl _) _
        · have hik : i = k := by omega
          subst hik
          have ho := Ho.out
          rw [Nat.sub_self, List.replicate_zero, List.append_nil] at ho
          have S5 := Lib.hid (Sl.of_own_at ho (ints_one _ _))
          clear ho
          go_wp2_with fail
          go_ret2
          have hfull : numL sg xs = some pre := by
            have := Hpre.out
            rwa [List.take_of_length_le (by rw [HXl.out]; exact Nat.le_refl _)] at this
          rw [hfull]
          exact kd_ok S5.out (T3.out.below Hb.out) (by omega)
end Go.Proofs.Ytehcbgnoiogncaa
