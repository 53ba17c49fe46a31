/- FlagCounts, FlagFills: the walks. -/
import Derived.Test.YtcmmgehghlaofaaFlagTop
namespace Go.Proofs.Ytcmmgehghlaofaa
open Go.RowKit
open PackMath
set_option linter.unusedVariables false

theorem bools_append (l m : List Bool) : bools (l ++ m) = bools l ++ bools m := by simp [bools]
section
variable {P : Program} {o : Oper} {ρ : Operand → Value} {w : World} {K : Value → World → Prop}
theorem opk_remN {t ty : TypeId} {x y : Operand} {m f : Nat} (hf : 0 < f) (h : o.op = .binOp .rem t x y ty) (hx : ρ x = .int .i64 (m : Int)) (hy : ρ y = .int .i64 (f : Int)) (hK : K (.int .i64 ((m % f : Nat) : Int)) w) : OpK P o ρ w K := by
  refine opk_run (v := .int .i64 ((m % f : Nat) : Int)) ?_ hK
  have h0 : f ≠ 0 := by omega
  simp [execOp, h, hx, hy, go_sem, h0]
  try exact Int.tmod_eq_emod_of_nonneg (by omega)
end
theorem opk_u64 {o : Oper} {ρ : Operand → Value} {w : World} {K : Value → World → Prop} {x : Operand} {a : Nat} (ha : a < 18446744073709551616) (h : o.op = .convert 3 49 x) (hx : ρ x = .int .i64 (a : Int)) (hK : K (.int .u64 (a : Int)) w) : OpK Try.prog o ρ w K :=
  opk_run (by simp [execOp, h, hx, go_sem]; rw [IntKind.wrap_u64]; omega) hK
theorem opk_shl1 {P : Program} {o : Oper} {ρ : Operand → Value} {w : World} {K : Value → World → Prop} {t ty : TypeId} {x y : Operand} {m : Nat} (hm : m < 8) (h : o.op = .binOp .shl t x y ty) (hx : ρ x = .int .u8 1) (hy : ρ y = .int .u64 (m : Int)) (hK : K (.int .u8 ((2 ^ m : Nat) : Int)) w) : OpK P o ρ w K := by
  refine opk_run (v := .int .u8 ((2 ^ m : Nat) : Int)) ?_ hK
  have e : IntKind.u8.wrap (2 ^ m) = ((2 ^ m : Nat) : Int) := by
    rw [wrap_u8]
    match m, hm with
    | 0, _ => rfl
    | 1, _ => rfl
    | 2, _ => rfl
    | 3, _ => rfl
    | 4, _ => rfl
    | 5, _ => rfl
    | 6, _ => rfl
    | 7, _ => rfl
  rw [← e]
  simp [execOp, h, hx, hy, go_sem]

set_option maxHeartbeats 3200000 in
set_option maxRecDepth 4000 in
theorem law_FlagCounts (A : Option Addr) (n c : Nat) (l : List Bool) (A' : Option Addr) (n' c' : Nat) (l' : List Bool) (w : World) (hs : Sl w A n c (bools l)) (hs' : Sl w A' n' c' (bools l')) :
    Calls Try.prog 11 #[.slice A n c, .slice A' n' c'] w fun e w' => e = .returned (.bool true) ∧ Below w.heap.size w w' := by
  have hle := hs.le
  have hmax := hs.max
  have hle' := hs'.le
  have hmax' := hs'.max
  unfold maxLen at hmax hmax'
  have hlen := hs.len
  have hlen' := hs'.len
  rw [bools_length] at hlen hlen'
  have Hs := Lib.hid hs
  have Hlen := Lib.hid hlen
  have Hs' := Lib.hid hs'
  have Hlen' := Lib.hid hlen'
  clear hs hlen hs' hlen'
  by_cases hn : n ≤ 2000
  · by_cases hn' : n' ≤ 2000
    · obtain ⟨i0, hi, hz0, hz1, hz2⟩ := info_parts Try.info4
      go_enter Try.func11, Try.ntmps11
      go_wp2_with fail
      refine (known7 _).mono ?_
      rintro e w1 ⟨rfl, hb1⟩
      have hsa := (Hs.out.keep hb1).keep (below_new w1 (.cells #[] 4))
      have ho1 : (w1.alloc (.cells #[] 4)).ownsRow w1.heap.size 4 1 (.slice (some ⟨w1.heap.size, 0, none⟩) 0 0) 0 [] := World.ownsRow_made w1 #[] 0 (Nat.le_refl _) (by decide) rfl
      go_wp2_with (at_builtin; refine wpList_append_sl rfl (.tmp 18) (.tmp 19) 40 rfl w1.heap.size 4 i0 (.bool false) 1 Try.underlying40 hi hz0 hz1 hz2 rfl _ 0 [] rfl ho1 _ n c _ rfl hsa ?c1 ?c2 ?c3 ?_)
      case c1 => unfold maxLen; omega
      case c2 => omega
      case c3 => simp
      intro v4 w4 ho4 hb4 _ _
      have hb14 := (below_new w1 (.cells #[] 4)).trans hb4
      have hsb := Hs'.out.keep (below_trans' hb1 hb14)
      have hsz4 := hb14.size
      clear ho1 hsa hb4
      go_wp2_with (at_builtin; refine wpList_append_sl rfl (.tmp 20) (.tmp 21) 40 rfl w1.heap.size 4 i0 (.bool false) 1 Try.underlying40 hi hz0 hz1 hz2 rfl _ _ _ rfl ho4 _ n' c' _ rfl hsb ?c1 ?c2 ?c3 ?_)
      case c1 => unfold maxLen; omega
      case c2 => omega
      case c3 => exact hsz4
      intro v5 w5 ho5 hb5 _ _
      have ho5' : w5.ownsRow w1.heap.size 4 1 v5 (n + n') (bools (l ++ l')) := by
        rw [bools_append]
        simpa using ho5
      obtain ⟨A5, c5, rfl, hs5⟩ := Sl.of_own ho5' (bools_one _)
      have hb15 := hb14.trans hb5
      obtain ⟨m, hm⟩ : ∃ m, m = n + n' := ⟨_, rfl⟩
      obtain ⟨q, hq⟩ : ∃ q, q = l ++ l' := ⟨_, rfl⟩
      have hql : q.length = m := by rw [hq, List.length_append, Hlen.out, Hlen'.out, hm]
      have hqc : cntS q = cntS l + cntS l' := by rw [hq, cntS_append]
      rw [← hm, ← hq] at hs5
      have hml : m ≤ 4000 := by omega
      rw [show n + n' = m from hm.symm]
      obtain ⟨d, hd⟩ : ∃ d, d = q.map (! ·) := ⟨_, rfl⟩
      have hdl : d.length = m := by rw [hd, List.length_map, hql]
      have hnot := cntS_not q
      rw [← hd, hql] at hnot
      have Hd := Lib.hid hd
      have Hdl := Lib.hid hdl
      have Hnot := Lib.hid hnot
      clear hd hdl hnot
      have Hs5 := Lib.hid hs5
      have Hql := Lib.hid hql
      have Hqc := Lib.hid hqc
      have Hb15 := Lib.hid hb15
      clear ho4 ho5 ho5' hsb hs5 hql hqc hq hm hb14 hb5 hb15 hsz4
      go_wp2_with fail
      go_loopw [6, 7] (fun ov iv wr => ∃ (i : Nat) (Ad : Option Addr) (cd : Nat), i ≤ m ∧ iv = .int .i64 (i : Int) ∧ ov = .slice Ad i cd ∧ Hid (wr.ownsRow w5.heap.size 4 1 (.slice Ad i cd) i (bools (d.take i))) ∧ Below w5.heap.size w5 wr) (fun _ iv _ => m - (intOf iv).toNat)
      case atStart => exact ⟨0, none, 0, Nat.zero_le _, rfl, rfl, World.ownsRow_nil _ _ _ _, Below.refl _ _⟩
      case round =>
        obtain ⟨i, Ad, cd, hi', rfl, rfl, Ho, hb⟩ := hrel
        by_cases hlt : i < m
        · obtain ⟨b, off, rfl, hbw, hcell⟩ := Hs5.out.at_ (by omega)
          have hcb := (hb.cell (p := ⟨b, off + i, none⟩) hbw).trans ((hcell i hlt).trans (congrArg some (bools_getD q i (by have := Hql.out; omega))))
          have hnx : d.take (i + 1) = d.take i ++ [!(q.getD i false)] := by
            have h1 : i < q.length := by have := Hql.out; omega
            have h2 : i < d.length := by have := Hdl.out; omega
            rw [List.take_succ_eq_append_getElem h2]
            congr 2
            simp [Hd.out, h1]
          have Hnx := Lib.hid hnx
          have hsz := hb.size
          generalize q.getD i false = z at *
          clear hcell hnx
          go_wp2_with (at_builtin; refine wpList_append_sl rfl _ _ 40 rfl w5.heap.size 4 i0 (.bool false) 1 Try.underlying40 hi hz0 hz1 hz2 rfl _ i _ rfl (Ho.out.alloc _) (some ⟨wr.heap.size, 0, none⟩) 1 1 [.bool (!z)] rfl (Sl.one_new wr (.bool (!z)) _ rfl) ?c1 ?c2 ?c3 ?_)
          case c1 => unfold maxLen; omega
          case c2 => omega
          case c3 => first | omega | (simp; omega)
          intro v2 w2 ho2 hb2 _ _
          have H2 : Hid (w2.ownsRow w5.heap.size 4 1 v2 (i + 1) (bools (d.take (i + 1)))) := by
            rw [Hnx.out, bools_append]
            exact ho2
          obtain ⟨A2, c2, rfl, s2⟩ := Sl.of_own H2.out (bools_one _)
          have hb3 := (hb.alloc hsz _).trans hb2
          clear ho2 s2 hb2
          go_wp2_with fail
          exact ⟨⟨i + 1, A2, c2, by omega, by first | rfl | simp, by first | rfl | trivial, H2.out, hb3⟩, by simp only [intOf]; omega⟩
        · obtain rfl : m = i := by omega
          have hsd : Sl wr Ad m cd (bools d) := by
            obtain ⟨A3, c3, hv, hs3⟩ := Sl.of_own Ho.out (bools_one _)
            injection hv with e1 e2 e3
            subst e1 e3
            rw [List.take_of_length_le (by have := Hdl.out; omega)] at hs3
            exact hs3
          have hnot := Hnot.out
          have B0 := below_trans' hb1 (below_trans' Hb15.out hb)
          have C5 := Lib.hid (fun W h => count_p A5 m c5 q W h (by omega))
          have Ca := Lib.hid (fun W h => count_p A n c l W h (by omega))
          have Cb := Lib.hid (fun W h => count_p A' n' c' l' W h (by omega))
          have Cd := Lib.hid (fun W h => count_p Ad m cd d W h (by omega))
          have hqc := Hqc.out
          have hq0 := cntS_le q
          rw [Hql.out] at hq0
          have ha0 := cntS_le l
          have hb0 := cntS_le l'
          rw [Hlen.out] at ha0
          rw [Hlen'.out] at hb0
          have Hsd := Lib.hid hsd
          have S5 := Lib.hid (Hs5.out.keep hb)
          have Sa := Lib.hid (Hs.out.keep B0)
          have Sb := Lib.hid (Hs'.out.keep B0)
          have HB := Lib.hid B0
          generalize cntS d = kd at *
          generalize cntS q = kq at *
          generalize cntS l = ka at *
          generalize cntS l' = kb at *
          have e1 : (kq : Int) = (ka : Int) + kb := by omega
          have e2 : (kd : Int) = (m : Int) - kq := by omega
          have E1 : Hid (((kq : Int) == (ka : Int) + kb) = true) := by simp; exact e1
          have E2 : Hid (((kd : Int) == (m : Int) - kq) = true) := by simp; exact e2
          clear hsd hnot hqc B0 e1 e2
          go_wp2_with fail
          refine (C5.out _ S5.out).mono ?_
          rintro e w6 ⟨rfl, hb6⟩
          go_wp2_with fail
          refine (Ca.out _ (Sa.out.keep hb6)).mono ?_
          rintro e w7 ⟨rfl, hb7⟩
          have B7 := below_trans' hb6 hb7
          go_wp2_with fail
          refine (Cb.out _ (Sb.out.keep B7)).mono ?_
          rintro e w8 ⟨rfl, hb8⟩
          have B8 := below_trans' B7 hb8
          have E1' := E1.out
          go_wp2_with fail
          refine (Cd.out _ (Hsd.out.keep B8)).mono ?_
          rintro e w9 ⟨rfl, hb9⟩
          have B9 := below_trans' B8 hb9
          go_wp2_with fail
          refine (C5.out _ (S5.out.keep B9)).mono ?_
          rintro e w10 ⟨rfl, hb10⟩
          have E2' := E2.out
          go_wp2_with fail
          go_ret
          exact ⟨by first | rfl | simp, below_trans' HB.out (below_trans' B9 hb10)⟩
    · go_enter Try.func11, Try.ntmps11
      go_wp2_with fail
      refine (known7 _).mono ?_
      rintro e w1 ⟨rfl, hb1⟩
      go_wp2_with fail
      go_ret
      exact ⟨rfl, hb1⟩
  · go_enter Try.func11, Try.ntmps11
    go_wp2_with fail
    refine (known7 _).mono ?_
    rintro e w1 ⟨rfl, hb1⟩
    go_wp2_with fail
    go_ret
    exact ⟨rfl, hb1⟩
end Go.Proofs.Ytcmmgehghlaofaa
