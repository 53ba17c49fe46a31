/- brle.Encode. -/
import Derived.Test.YtcmmgehghlaofaaBrleFlush
import Derived.Test.YtcmmgehghlaofaaClone
import Derived.Deep.DeepCutAuto
namespace Go.Proofs.Ytcmmgehghlaofaa
open Go.RowKit
set_option linter.unusedVariables false

theorem runLen_gt (c m : Nat) (l : List Nat) (k : Nat) (hk : k ≤ runLen c m l) : (k < m → l[k]? = some c → k + 1 ≤ runLen c m l) ∧ (¬ (k < m ∧ l[k]? = some c) → runLen c m l = k) := by
  induction m generalizing l k with
  | zero =>
    have h0 : runLen c 0 l = 0 := by cases l <;> rfl
    rw [h0] at hk ⊢
    exact ⟨fun h => by omega, fun _ => by omega⟩
  | succ m ih =>
    cases l with
    | nil =>
      have h0 : runLen c (m + 1) [] = 0 := rfl
      rw [h0] at hk ⊢
      exact ⟨fun _ h => by simp at h, fun _ => by omega⟩
    | cons d t =>
      by_cases hd : d = c
      · have h0 : runLen c (m + 1) (d :: t) = runLen c m t + 1 := if_pos hd
        rw [h0] at hk ⊢
        cases k with
        | zero => exact ⟨fun _ _ => by omega, fun h => absurd ⟨by omega, by simp [hd]⟩ h⟩
        | succ k =>
          obtain ⟨h1, h2⟩ := ih t k (by omega)
          refine ⟨fun ha hb => ?_, fun h => ?_⟩
          · have := h1 (by omega) (by simpa using hb); omega
          · have := h2 (fun ⟨ha, hb⟩ => h ⟨by omega, by simpa using hb⟩); omega
      · have h0 : runLen c (m + 1) (d :: t) = 0 := if_neg hd
        rw [h0] at hk ⊢
        obtain rfl : k = 0 := by omega
        exact ⟨fun _ h => by simp at h; exact absurd h hd, fun _ => rfl⟩

theorem apart_own {w : World} {base base' : Nat} {e e' : TypeId} {size size' len cap n : Nat} {A : Option Addr} {vo : Value} {xs ys : List Value} (hap : ∀ ad, A = some ad → vo.ownBlock ≠ some ad.block)
    (ho : w.ownsRow base e size vo n xs) (hl : w.ownsRow base' e' size' (.slice A len cap) len ys) : vo.ownBlock = none ∨ vo.ownBlock ≠ (Value.slice A len cap).ownBlock := by
  rcases ho.2 with ⟨h, _⟩ | ⟨g, cap1, cur, hv, _⟩
  · exact .inl (by rw [h]; rfl)
  · right
    rcases hl.2 with ⟨h, _⟩ | ⟨g2, cap2, cur2, hv2, _⟩
    · rw [h, hv]; simp [Value.ownBlock]
    · injection hv2 with e1 e2 e3
      have := hap _ e1
      rw [e1]
      simpa [Value.ownBlock] using this
theorem apart_new {w : World} {base : Nat} {e : TypeId} {size n k : Nat} {v v' vo : Value} {xs : List Value} (hap : vo.ownBlock = none ∨ vo.ownBlock ≠ v.ownBlock) (ho : w.ownsRow base e size vo n xs) (hk : v'.ownBlock = some k) (hv : v'.ownBlock = v.ownBlock ∨ v'.ownBlock = some w.heap.size) : vo.ownBlock ≠ some k := by
  rcases hap with h | h
  · rw [h]; simp
  · rcases hv with h1 | h1
    · rw [← hk, h1]; exact h
    · intro h2
      have := (ho.lt k h2).2
      rw [h1] at hk
      injection hk with hk
      omega
theorem apart_slice {w : World} {base : Nat} {e : TypeId} {size n m c : Nat} {A : Option Addr} {vo : Value} {xs : List Value} (ho : w.ownsRow base e size (.slice A n c) m xs) {ad : Addr} (hA : A = some ad) (ha : ∀ k, (Value.slice A n c).ownBlock = some k → vo.ownBlock ≠ some k) : vo.ownBlock ≠ some ad.block := by
  rcases ho.2 with ⟨h, _⟩ | ⟨g, cap, cur, hv, _⟩
  · injection h with e1; rw [e1] at hA; cases hA
  · injection hv with e1 e2 e3
    rw [e1] at hA
    injection hA with hA
    subst hA
    exact ha g (by rw [e1]; simp [Value.ownBlock])

/-- An own row, apart from another. -/
def Fact.ownA (B : Nat) (e : TypeId) (n : Nat) (xs : List Value) (vo : Value) : Fact :=
  ⟨fun x w => w.ownsRow B e 1 x n xs ∧ ∀ k, x.ownBlock = some k → vo.ownBlock ≠ some k, fun _ _ _ h hb => ⟨World.ownsRow.below h.1 hb, h.2⟩⟩

structure EncSt (w : World) (l : List Nat) (i : Nat) (vo : Value) (A : Option Addr) (len cap : Nat) (ob lits : List Nat) (wr : World) : Prop where
  box : Boxed wr w.heap.size 22 vo
  lbox : Boxed wr (w.heap.size + 1) 22 (.slice A len cap)
  own : wr.ownsRow w.heap.size 5 1 vo ob.length (nats .u8 ob)
  lown : wr.ownsRow w.heap.size 5 1 (.slice A len cap) len (nats .u8 lits)
  apart : ∀ ad, A = some ad → vo.ownBlock ≠ some ad.block
  bel : Below w.heap.size w wr
  few : ob.length + 2 * len ≤ 2 * i
  is : ∃ (out : List Run) (f : Nat), ob = runsB out ∧ l.length - i < f ∧ encG f (l.drop i) lits out = encS l

theorem EncSt.drew {w : World} {l : List Nat} {i : Nat} {vo : Value} {A : Option Addr} {len cap : Nat} {ob lits : List Nat} {wr : World} (h : EncSt w l i vo A len cap ob lits wr) (k : Nat) : EncSt w l i vo A len cap ob lits (wr.drewN k) :=
  ⟨h.box, h.lbox, h.own, h.lown, h.apart, h.bel.trans ((below_drewN wr k).mono h.bel.size), h.few, h.is⟩

/-- What flush leaves: nothing waits. -/
theorem encG_end (f : Nat) (lits : List Nat) (out : List Run) : encG f [] lits out = out ++ chunks (lits.length + 1) lits := by cases f <;> rfl
theorem encG_run {f r c0 : Nat} {l lits : List Nat} {i : Nat} {out : List Run} {R : List Run} (hi : i < l.length) (hf : l.length - i < f) (hc : l.getD i 0 = c0) (hr : runLen c0 130 (l.drop i) = r) (h : encG f (l.drop i) lits out = R) :
    ∃ f', l.length - (i + r) < f' ∧ (if 3 ≤ r then encG f' (l.drop (i + r)) [] (out ++ chunks (lits.length + 1) lits ++ [.rep c0 r]) else encG f' (l.drop (i + r)) (lits ++ (l.drop i).take r) out) = R ∧ 1 ≤ r ∧ i + r ≤ l.length := by
  obtain ⟨f', rfl⟩ : ∃ f', f = f' + 1 := ⟨f - 1, by omega⟩
  have hd : l.drop i = c0 :: l.drop (i + 1) := by rw [List.drop_eq_getElem_cons hi]; congr 1; rw [← hc]; simp [hi]
  have h1 := runLen_le c0 130 (l.drop i)
  have h2 : 1 ≤ r := by rw [← hr, hd]; exact runLen_pos c0 _
  rw [hr, List.length_drop] at h1
  refine ⟨f', by omega, ?_, h2, by omega⟩
  rw [← h]
  have hdd : (l.drop i).drop r = l.drop (i + r) := by rw [List.drop_drop]
  rw [← hdd]
  rw [hd] at hr ⊢
  rw [← hr]
  rfl

set_option maxHeartbeats 6400000 in
set_option maxRecDepth 8000 in
theorem enc_p (A0 : Option Addr) (n c : Nat) (l : List Nat) (w : World) (hs : Sl w A0 n c (nats .u8 l)) (hl8 : ∀ x ∈ l, x < 256) (hn : n ≤ 1000000) :
    Calls Try.prog 23 #[.slice A0 n c] w fun e w' => ∃ A' m, e = .returned (.slice A' m m) ∧ Sl w' A' m m (nats .u8 (runsB (encS l))) ∧ Below w.heap.size w w' := by
  have hle := hs.le
  have hmax := hs.max
  have hlen := hs.len
  rw [nats_length] at hlen
  obtain ⟨i0, hi, hz0, hz1, hz2⟩ := info_parts Try.info5
  have Hs := Lib.hid hs
  have Hlen := Lib.hid hlen
  have Hl8 := Lib.hid hl8
  have H0 : EncSt w l 0 (.slice none 0 0) none 0 0 [] [] ((w.alloc (.cells #[.slice none 0 0] 22)).alloc (.cells #[.slice none 0 0] 22)) := by
    refine ⟨(Boxed.new w _ _).alloc _, ?_, World.ownsRow_nil _ _ _ _, World.ownsRow_nil _ _ _ _, (fun ad h => by cases h), ((Below.refl _ w).alloc (Nat.le_refl _) _).alloc (by simp) _, by simp, [], l.length + 1, rfl, by omega, rfl⟩
    have := Boxed.new (w.alloc (.cells #[.slice none 0 0] 22)) 22 (.slice none 0 0)
    rwa [World.size_alloc] at this
  unfold maxLen at hmax
  clear hs hlen hl8
  go_enter Try.func23, Try.ntmps23
  go_wp2_with fail
  go_loopw [6] (fun iv wr => ∃ (i : Nat) (vo : Value) (A : Option Addr) (len cap : Nat) (ob lits : List Nat), i ≤ n ∧ iv = .int .i64 (i : Int) ∧ EncSt w l i vo A len cap ob lits wr) (fun iv _ => n - (intOf iv).toNat)
  case atStart => exact ⟨0, _, _, _, _, _, _, by omega, rfl, H0⟩
  case round =>
    obtain ⟨i, vo, A, len, cap, ob, lits, hin, rfl, hst⟩ := hrel
    have Hst := Lib.hid hst
    by_cases hlt : i < n
    · obtain ⟨b, off, rfl, hbw, hcell⟩ := Hs.out.at_ (by omega)
      obtain ⟨c0, hc0⟩ : ∃ c0, c0 = l.getD i 0 := ⟨_, rfl⟩
      obtain ⟨r, hr⟩ : ∃ r, r = runLen c0 130 (l.drop i) := ⟨_, rfl⟩
      have hc0b : c0 < 256 := by
        have := Hlen.out
        rw [hc0, List.getD_eq_getElem?_getD, List.getElem?_eq_getElem (by omega)]
        exact Hl8.out _ (List.getElem_mem _)
      have hgt := fun k hk => runLen_gt c0 130 (l.drop i) k (by rw [← hr]; exact hk)
      rw [← hr] at hgt
      have hrle := runLen_le c0 130 (l.drop i)
      rw [← hr, List.length_drop, Hlen.out] at hrle
      have hr1 : 1 ≤ r := by
        rw [hr, List.drop_eq_getElem_cons (by have := Hlen.out; omega), show l[i]'(by have := Hlen.out; omega) = c0 from by rw [hc0]; have := Hlen.out; simp [show i < l.length from by omega]]
        exact runLen_pos _ _
      have Hcell := Lib.hid hcell
      have Hgt := Lib.hid hgt
      have Hc0 := Lib.hid hc0
      have Hr := Lib.hid hr
      obtain ⟨hr130, hrn⟩ := hrle
      clear hcell hgt hc0 hr hst
      go_wp2_with fail
      go_loopw [7] (fun nv wq => ∃ (k : Nat), 1 ≤ k ∧ k ≤ r ∧ nv = .int .i64 (k : Int) ∧ EncSt w l i vo A len cap ob lits wq) (fun nv _ => 130 - (intOf nv).toNat)
      case atStart => exact ⟨1, Nat.le_refl _, hr1, rfl, Hst.out⟩
      case round =>
        obtain ⟨k, hk1, hkr, rfl, hst⟩ := hrel
        have Hst2 := Lib.hid hst
        have hlk : ∀ x, l.getD (i + k) 0 = x → i + k < n → (l.drop i)[k]? = some x := fun x hx hik => by
          have := Hlen.out
          rw [List.getElem?_drop, ← hx, List.getD_eq_getElem?_getD, List.getElem?_eq_getElem (by omega)]; rfl
        obtain ⟨tb, htb⟩ : ∃ tb : Bool, tb = decide (k + 1 ≤ r) := ⟨_, rfl⟩
        have Htb := Lib.hid htb
        clear htb
        have hbel := hst.bel
        have hcell2 : ∀ j, j < n → wr.cell? ⟨b, off + j, none⟩ = some (.int .u8 ((l.getD j 0 : Nat) : Int)) := fun j hj => by
          rw [hbel.cell (p := ⟨b, off + j, none⟩) hbw, Hcell.out j hj, nats_getD _ _ _ (by have := Hlen.out; omega)]
        have hci := hcell2 i hlt
        rw [← Hc0.out] at hci
        have Hcell2 := Lib.hid hcell2
        clear hcell2 hbel
        clear hst
        go_upto_region 6 with (fail)
        go_cut [35] (fun tv wx => tv = .bool tb ∧ EncSt w l i vo A len cap ob lits wx)
        case first =>
          by_cases h1 : i + k < n
          · obtain ⟨x, hx⟩ : ∃ x, x = l.getD (i + k) 0 := ⟨_, rfl⟩
            have hcx := Hcell2.out (i + k) h1
            rw [← hx] at hcx
            have hxk := hlk x hx.symm h1
            have Hxk := Lib.hid hxk
            clear hlk hxk hx
            have hd1 : decide ((i : Int) + k < n) = true := by simp; omega
            by_cases h2 : k < 130
            · have hd2 : decide ((k : Int) < 130) = true := by simp; omega
              by_cases h3 : x = c0
              · subst h3
                have htb' : tb = true := by rw [Htb.out]; have := (Hgt.out k hkr).1 h2 Hxk.out; simpa using this
                clear Htb
                subst htb'
                have hsum : IntKind.i64.wrap ((i : Int) + k) = (i : Int) + k := IntWalk.i64_in _ (by omega)
                have hs0 : (0 : Int) ≤ (i : Int) + k := by omega
                have hs1 : ((i : Int) + k).toNat = i + k := by omega
                go_quiet (fail)
                go_wp2_with fail
                go_meet
                case rel => exact ⟨rfl, Hst2.out.drew _⟩
              · have htb' : tb = false := by
                  rw [Htb.out]
                  have := (Hgt.out k hkr).2 (fun h => by rw [Hxk.out] at h; exact h3 (by simpa using h.2))
                  simp; omega
                clear Htb
                subst htb'
                have hd3 : ((x : Int) == (c0 : Int)) = false := by rw [beq_eq_false_iff_ne]; omega
                have hsum : IntKind.i64.wrap ((i : Int) + k) = (i : Int) + k := IntWalk.i64_in _ (by omega)
                have hs0 : (0 : Int) ≤ (i : Int) + k := by omega
                have hs1 : ((i : Int) + k).toNat = i + k := by omega
                go_quiet (fail)
                go_wp2_with fail
                go_meet
                case rel => exact ⟨rfl, Hst2.out.drew _⟩
            · have htb' : tb = false := by rw [Htb.out]; simp; omega
              have hd2 : decide ((k : Int) < 130) = false := by simp; omega
              clear Htb
              subst htb'
              have hsum : IntKind.i64.wrap ((i : Int) + k) = (i : Int) + k := IntWalk.i64_in _ (by omega)
              have hs0 : (0 : Int) ≤ (i : Int) + k := by omega
              have hs1 : ((i : Int) + k).toNat = i + k := by omega
              go_quiet (fail)
              go_wp2_with fail
              go_meet
              case rel => exact ⟨rfl, Hst2.out.drew _⟩
          · have htb' : tb = false := by
              rw [Htb.out]
              have := (Hgt.out k hkr).2 (fun h => by
                have h4 : ¬ k < (l.drop i).length := by rw [List.length_drop]; have := Hlen.out; omega
                rw [List.getElem?_eq_none (by omega)] at h
                cases h.2)
              simp; omega
            have hd1 : decide ((i : Int) + k < n) = false := by simp; omega
            clear Htb hlk
            subst htb'
            have hsum : IntKind.i64.wrap ((i : Int) + k) = (i : Int) + k := IntWalk.i64_in _ (by omega)
            have hs0 : (0 : Int) ≤ (i : Int) + k := by omega
            have hs1 : ((i : Int) + k).toNat = i + k := by omega
            go_quiet (fail)
            go_wp2_with fail
            go_meet
            case rel => exact ⟨rfl, Hst2.out.drew _⟩
        case rest =>
          obtain ⟨rfl, hst3⟩ := hcut
          have Hst3 := Lib.hid hst3
          clear hst3 hci hlk
          by_cases hkr1 : k + 1 ≤ r
          · have htb' : tb = true := by rw [Htb.out]; simpa using hkr1
            clear Htb
            subst htb'
            go_wp2_with fail
            exact ⟨⟨k + 1, by omega, hkr1, by first | rfl | simp, Hst3.out⟩, by simp only [intOf]; omega⟩
          · have htb' : tb = false := by rw [Htb.out]; simpa using hkr1
            obtain rfl : k = r := by omega
            clear Htb
            subst htb'
            obtain ⟨vB, hbl, hown, hlo, hap, hbel, hfew, out, f, hout, hf, henc⟩ := Hst3.out
            obtain ⟨f', hf', henc', _, _⟩ := encG_run (by have := Hlen.out; omega) hf Hc0.out.symm Hr.out.symm henc
            have HvB := Lib.hid vB
            have Hbl := Lib.hid hbl
            have Hown := Lib.hid hown
            have Hl := Lib.hid hlo
            have Hap := Lib.hid hap
            have Hout := Lib.hid hout
            have Hf' := Lib.hid hf'
            have Henc' := Lib.hid henc'
            clear vB hbl hown hlo hap hout hf henc hf' henc'
            have hlits : lits.length = len := by have := Hl.out.1; rw [nats_length, Nat.mul_one] at this; exact this
            have hchl := chunks_length (lits.length + 1) lits (by omega)
            by_cases h3r : 3 ≤ k
            · have HchL := Lib.hid hchl
              have Hlits := Lib.hid hlits
              clear hchl hlits
              go_wp2_with fail
              refine (flush_p w.heap.size (w.heap.size + 1) w.heap.size len cap A vo ob lits wc HvB.out Hbl.out (by omega) (Nat.le_refl _) (by omega) Hown.out Hl.out Hap.out (by omega) (by omega)).mono ?_
              rintro e w4 ⟨⟨v4, rfl⟩, vo2, vB2, bl2, own2, hb2⟩
              obtain ⟨ob2, hob2⟩ : ∃ ob2, ob2 = ob ++ runsB (chunks (lits.length + 1) lits) := ⟨_, rfl⟩
              rw [← hob2] at own2
              have hL2 : ob2.length ≤ 2 * i := by rw [hob2, List.length_append, HchL.out, Hlits.out]; omega
              obtain ⟨L, hL⟩ : ∃ L, L = ob2.length := ⟨_, rfl⟩
              rw [← hL] at hL2 own2
              have hbel2 := hbel.trans hb2
              have HvB2 := Lib.hid vB2
              have Hbl2 := Lib.hid bl2
              have Hown2 := Lib.hid own2
              have Hob2 := Lib.hid hob2
              have HL := Lib.hid hL
              have Hci2 : Hid (w4.cell? ⟨b, off + i, none⟩ = some (.int .u8 (c0 : Int))) := by
                have h1 := (hbel2.cell (p := ⟨b, off + i, none⟩) hbw).trans (Hcell.out i hlt)
                rw [nats_getD _ _ _ (by have := Hlen.out; omega), ← Hc0.out] at h1
                exact h1
              clear vB2 bl2 own2 hob2 hL
              go_wp2_with fail
              refine region_put _ [Fact.is vo2, Fact.is (.int .i64 (k : Int)), Fact.is (.int .i64 ((k : Int) - 3)), Fact.is (.int .u8 ((k - 3 : Nat) : Int)), Fact.is (.slice (some ⟨b, off, none⟩) n c), Fact.is (.int .i64 (i : Int)), Fact.is (.pointer (some ⟨b, off + i, none⟩)), Fact.is (.int .u8 (c0 : Int)), Fact.sl 2 (nats .u8 [k - 3, c0]), Fact.own w.heap.size 5 (L + 2) (nats .u8 (ob2 ++ [k - 3, c0])), Fact.any] [[(3, none)], [(7, none)], [(43, some 1)], [(44, some 2)], [(0, none)], [(6, none)], [(46, some 4), (47, some 5)], [(48, some 6)], [(45, some 3), (49, some 7)], [(42, some 0), (50, some 8)], [(3, none), (51, some 9)]] [true, true, true, true, true, true, true, true, true, true, true] [.pre, .pre, .pre, .pre, .pre, .pre, .pre, .pre, .pre, .put, .store] [true, true, true, true, true, true, true, true, false, false, true] 9 10 (fun w4 => Boxed w4 w.heap.size 22 vo2 ∧ Boxed w4 (w.heap.size + 1) 22 (.slice none 0 0) ∧ Below w.heap.size w w4) (fun w5 => ∃ vo', Boxed w5 w.heap.size 22 vo' ∧ Boxed w5 (w.heap.size + 1) 22 (.slice none 0 0) ∧ w5.ownsRow w.heap.size 5 1 vo' (L + 2) (nats .u8 (ob2 ++ [k - 3, c0])) ∧ Below w.heap.size w w5) (by kernel_rfl) (by kernel_rfl) (by kernel_rfl) ⟨fun _ => Fact.free_is _, fun _ => Fact.free_is _, fun _ => Fact.free_is _, fun _ => Fact.free_is _, fun _ => Fact.free_is _, fun _ => Fact.free_is _, fun _ => Fact.free_is _, fun _ => Fact.free_is _, (fun h => by cases h), (fun h => by cases h), fun _ => Fact.free_any, trivial⟩ ⟨⟨?_, ?_⟩, ⟨?_, ?_⟩, ⟨?_, ?_⟩, ⟨?_, ?_⟩, ⟨?_, ?_⟩, ⟨?_, ?_⟩, ⟨?_, ?_⟩, ⟨?_, ?_⟩, ⟨?_, ?_⟩, ⟨?_, ?_⟩, ⟨?_, ?_⟩, trivial⟩ ?_
              · intro ρ w' hc hB h3
                refine chain_run rfl ?_
                exact opk_load_slice rfl (show ρ _ = .pointer (some ⟨w.heap.size, 0, none⟩) from h3) (hB.cell (p := ⟨w.heap.size, 0, none⟩) HvB2.out.lt |>.trans HvB2.out.cell) ⟨Below.refl _ _, rfl⟩
              · exact rfl
              · intro ρ w' hc hB h7
                refine chain_run rfl ?_
                exact opk_move rfl ⟨Below.refl _ _, h7⟩
              · exact rfl
              · intro ρ w' hc hB h43
                refine chain_run rfl ?_
                exact opk_sub_i64 rfl h43 (hc.1 _) (by omega) ⟨Below.refl _ _, rfl⟩
              · exact rfl
              · intro ρ w' hc hB h44
                refine chain_run rfl ?_
                exact opk_byte rfl h44 ⟨Below.refl _ _, congrArg (Value.int .u8) (by omega)⟩
              · exact rfl
              · intro ρ w' hc hB h0
                refine chain_run rfl ?_
                exact opk_move rfl ⟨Below.refl _ _, h0⟩
              · exact rfl
              · intro ρ w' hc hB h6
                refine chain_run rfl ?_
                exact opk_move rfl ⟨Below.refl _ _, h6⟩
              · exact rfl
              · intro ρ w' hc hB h46 h47
                refine chain_run rfl ?_
                exact opk_indexAddr rfl h46 h47 hlt ⟨Below.refl _ _, congrArg (fun a => Value.pointer (some a)) (add_none _ _ _)⟩
              · exact rfl
              · intro ρ w' hc hB h48
                refine chain_run rfl ?_
                exact opk_load_u8 rfl h48 ((hB.cell (p := ⟨b, off + i, none⟩) (Nat.lt_of_lt_of_le hbw hbel2.size)).trans Hci2.out) ⟨Below.refl _ _, rfl⟩
              · exact rfl
              · intro ρ w' hc hB h45 h49
                refine chain_run rfl ?_
                exact opk_build2 rfl h45 h49 ⟨below_new _ _, _, _, rfl, Sl.lit w' (nats .u8 [k - 3, c0]) 2 _ rfl (by decide) (nats_one _ _)⟩
              · exact rfl
              · intro ρ w' hc hB h42 h50
                refine chain_run rfl ?_
                obtain ⟨A_, c_, e_, s_⟩ := h50
                refine opk_append_own Try.underlying22 hi hz0 hz1 hz2 rfl rfl h42 (World.ownsRow.below Hown2.out hB) e_ s_ (by unfold maxLen; omega) (by omega) (by have := hB.size; have := hbel2.size; omega) ?_
                intro v' w4 hb4 ho4 hg4 hv4
                rw [← nats_append] at ho4
                have k1 : Boxed w' w.heap.size 22 vo2 := (hB.block _ HvB2.out.lt).trans HvB2.out
                have k2 : Boxed w' (w.heap.size + 1) 22 (.slice none 0 0) := (hB.block _ Hbl2.out.lt).trans Hbl2.out
                have kr := World.ownsRow.below Hown2.out hB
                exact ⟨⟨k1.kept hg4 (k1.not_row (by decide) kr), k2.kept hg4 (k2.not_row (by decide) kr), (hbel2.trans (hB.mono hbel2.size)).trans hb4⟩, ho4⟩
              · exact rfl
              · intro ρ w' hc hB h3 h51
                refine chain_run rfl ?_
                obtain ⟨k1, k2, kb⟩ := hB
                have ho4 : w'.ownsRow w.heap.size 5 1 (ρ (.tmp 51)) (L + 2) (nats .u8 (ob2 ++ [k - 3, c0])) := h51
                obtain ⟨A4, c4, e4, s4⟩ := Sl.of_own ho4 (nats_one _ _)
                rw [e4] at ho4
                refine opk_store_slice rfl (show ρ _ = .pointer (some ⟨w.heap.size, 0, none⟩) from h3) e4 k1.cell k1.frozen ?_
                exact ⟨⟨_, k1.set _, (Below.heap_setCell _ _ _ _ (by simp)).trans k2, ho4.kept (grownBy_setCell' w' w.heap.size _) (.inr (k1.not_row (by decide) ho4).symm), kb.setCell (p := ⟨w.heap.size, 0, none⟩) (Nat.le_refl _) _⟩, trivial⟩
              · exact rfl
              intro a' w5 hP hsz hd hF hU
              obtain ⟨vo3, k1, k2, ko, kb⟩ : ∃ vo', Boxed w5 w.heap.size 22 vo' ∧ Boxed w5 (w.heap.size + 1) 22 (.slice none 0 0) ∧ w5.ownsRow w.heap.size 5 1 vo' (L + 2) (nats .u8 (ob2 ++ [k - 3, c0])) ∧ Below w.heap.size w w5 := hP
              obtain ⟨fr, hfr, hlit⟩ := act_lit a' _ _ [42, 43, 44, 45, 46, 47, 48, 49, 50, 51] hsz hd (fun t ht => hU t (by
                intro i o ho hod
                have := List.mem_filterMap.2 ⟨o, List.mem_of_getElem? ho, hod⟩
                revert this
                exact fun h => ht (by simpa using h)))
              rw [hlit]
              clear hF hU hlit hfr hsz hd
              have H5 : Hid (EncSt w l (i + k) vo3 none 0 0 (ob2 ++ [k - 3, c0]) [] w5) := by
                refine ⟨k1, k2, by rw [List.length_append, ← HL.out]; exact ko, World.ownsRow_nil _ _ _ _, (fun ad h => by cases h), kb, by rw [List.length_append, ← HL.out]; simp only [List.length_cons, List.length_nil]; omega, out ++ chunks (lits.length + 1) lits ++ [.rep c0 k], f', ?_, Hf'.out, ?_⟩
                · rw [runsB_append, runsB_append, Hob2.out, Hout.out]; simp [runsB, Run.bytes]
                · have := Henc'.out
                  rw [if_pos h3r] at this
                  exact this
              clear k1 k2 ko kb
              go_wp2_with fail
              exact ⟨⟨i + k, vo3, none, 0, 0, _, [], by omega, by first | rfl | simp, H5.out⟩, by simp only [intOf]; omega⟩
            · have Hs2 := Lib.hid (Hs.out.keep hbel)
              obtain ⟨L, hL⟩ : ∃ L, L = ob.length := ⟨_, rfl⟩
              have hown2 := Hown.out
              rw [← hL] at hown2 hfew
              clear Hown
              have Hown := Lib.hid hown2
              have HL := Lib.hid hL
              clear hchl hlits hL hown2
              go_wp2_with fail
              refine region_put _ [Fact.is (.slice A len cap), Fact.is (.slice (some ⟨b, off, none⟩) n c), Fact.is (.int .i64 (i : Int)), Fact.is (.int .i64 (i : Int)), Fact.is (.int .i64 (k : Int)), Fact.is (.int .i64 ((i + k : Nat) : Int)), Fact.sl k (nats .u8 ((l.drop i).take k)), Fact.ownA w.heap.size 5 (len + k) (nats .u8 (lits ++ (l.drop i).take k)) vo, Fact.any] [[(4, none)], [(0, none)], [(6, none)], [(6, none)], [(7, none)], [(55, some 3), (56, some 4)], [(53, some 1), (54, some 2), (57, some 5)], [(52, some 0), (58, some 6)], [(4, none), (59, some 7)]] [true, true, true, true, true, true, true, true, true] [.pre, .pre, .pre, .pre, .pre, .pre, .pre, .put, .store] [true, true, true, true, true, true, false, false, true] 7 8 (fun w4 => Boxed w4 w.heap.size 22 vo ∧ Boxed w4 (w.heap.size + 1) 22 (.slice A len cap) ∧ w4.ownsRow w.heap.size 5 1 vo L (nats .u8 ob) ∧ Below w.heap.size w w4) (fun w5 => ∃ A4 c4, Boxed w5 w.heap.size 22 vo ∧ Boxed w5 (w.heap.size + 1) 22 (.slice A4 (len + k) c4) ∧ w5.ownsRow w.heap.size 5 1 vo L (nats .u8 ob) ∧ w5.ownsRow w.heap.size 5 1 (.slice A4 (len + k) c4) (len + k) (nats .u8 (lits ++ (l.drop i).take k)) ∧ (∀ ad, A4 = some ad → vo.ownBlock ≠ some ad.block) ∧ Below w.heap.size w w5) (by kernel_rfl) (by kernel_rfl) (by kernel_rfl) ⟨fun _ => Fact.free_is _, fun _ => Fact.free_is _, fun _ => Fact.free_is _, fun _ => Fact.free_is _, fun _ => Fact.free_is _, fun _ => Fact.free_is _, (fun h => by cases h), (fun h => by cases h), fun _ => Fact.free_any, trivial⟩ ⟨⟨?_, ?_⟩, ⟨?_, ?_⟩, ⟨?_, ?_⟩, ⟨?_, ?_⟩, ⟨?_, ?_⟩, ⟨?_, ?_⟩, ⟨?_, ?_⟩, ⟨?_, ?_⟩, ⟨?_, ?_⟩, trivial⟩ ?_
              · intro ρ w' hc hB h4
                refine chain_run rfl ?_
                exact opk_load_slice rfl (show ρ _ = .pointer (some ⟨w.heap.size + 1, 0, none⟩) from h4) (hB.cell (p := ⟨w.heap.size + 1, 0, none⟩) Hbl.out.lt |>.trans Hbl.out.cell) ⟨Below.refl _ _, rfl⟩
              · exact rfl
              · intro ρ w' hc hB h0
                refine chain_run rfl ?_
                exact opk_move rfl ⟨Below.refl _ _, h0⟩
              · exact rfl
              · intro ρ w' hc hB h6
                refine chain_run rfl ?_
                exact opk_move rfl ⟨Below.refl _ _, h6⟩
              · exact rfl
              · intro ρ w' hc hB h6
                refine chain_run rfl ?_
                exact opk_move rfl ⟨Below.refl _ _, h6⟩
              · exact rfl
              · intro ρ w' hc hB h7
                refine chain_run rfl ?_
                exact opk_move rfl ⟨Below.refl _ _, h7⟩
              · exact rfl
              · intro ρ w' hc hB h55 h56
                refine chain_run rfl ?_
                exact opk_add_i64 rfl h55 h56 (by omega) ⟨Below.refl _ _, congrArg (Value.int .i64) (by omega)⟩
              · exact rfl
              · intro ρ w' hc hB h53 h54 h57
                refine chain_run rfl ?_
                have hs' := Hs2.out.keep hB
                have e1 : i + k - i = k := by omega
                refine opk_slice_lohi Try.underlying22 hi hz1 rfl h53 hs' h54 h57 (by omega) (by omega) ⟨Below.refl _ _, ?_⟩
                have hcut := hs'.cut i (i + k) (by omega) (by omega)
                rw [e1] at hcut ⊢
                exact ⟨_, _, rfl, by simpa [nats] using hcut⟩
              · exact rfl
              · intro ρ w' hc hB h52 h58
                refine chain_run rfl ?_
                obtain ⟨A_, c_, e_, s_⟩ := h58
                refine opk_append_own Try.underlying22 hi hz0 hz1 hz2 rfl rfl h52 (World.ownsRow.below Hl.out hB) e_ s_ (by unfold maxLen; omega) (by omega) (by have := hB.size; have := hbel.size; omega) ?_
                intro v' w4 hb4 ho4 hg4 hv4
                rw [← nats_append] at ho4
                have k1 : Boxed w' w.heap.size 22 vo := (hB.block _ HvB.out.lt).trans HvB.out
                have k2 : Boxed w' (w.heap.size + 1) 22 (.slice A len cap) := (hB.block _ Hbl.out.lt).trans Hbl.out
                have kr := World.ownsRow.below Hl.out hB
                have ko := World.ownsRow.below Hown.out hB
                have hap := apart_own Hap.out ko kr
                refine ⟨⟨k1.kept hg4 (k1.not_row (by decide) kr), k2.kept hg4 (k2.not_row (by decide) kr), ko.kept hg4 hap, (hbel.trans (hB.mono hbel.size)).trans hb4⟩, ho4, fun k hk => ?_⟩
                exact apart_new hap ko hk hv4
              · exact rfl
              · intro ρ w' hc hB h4 h59
                refine chain_run rfl ?_
                obtain ⟨k1, k2, ko, kb⟩ := hB
                obtain ⟨ho4, ha4⟩ : w'.ownsRow w.heap.size 5 1 (ρ (.tmp 59)) (len + k) (nats .u8 (lits ++ (l.drop i).take k)) ∧ ∀ k, (ρ (.tmp 59)).ownBlock = some k → vo.ownBlock ≠ some k := h59
                obtain ⟨A4, c4, e4, s4⟩ := Sl.of_own ho4 (nats_one _ _)
                rw [e4] at ho4 ha4
                refine opk_store_slice rfl (show ρ _ = .pointer (some ⟨w.heap.size + 1, 0, none⟩) from h4) e4 k2.cell k2.frozen ?_
                refine ⟨⟨A4, c4, (Below.heap_setCell _ _ _ _ (by simp)).trans k1, k2.set _, ko.kept (grownBy_setCell' w' (w.heap.size + 1) _) (.inr (k2.not_row (by decide) ko).symm), ho4.kept (grownBy_setCell' w' (w.heap.size + 1) _) (.inr (k2.not_row (by decide) ho4).symm), fun ad hA => ?_, kb.setCell (p := ⟨w.heap.size + 1, 0, none⟩) (by simp) _⟩, trivial⟩
                exact apart_slice ho4 hA ha4
              · exact rfl
              intro a' w5 hP hsz hd hF hU
              obtain ⟨A4, c4, k1, k2, ko, kl, ka, kb⟩ : ∃ A4 c4, Boxed w5 w.heap.size 22 vo ∧ Boxed w5 (w.heap.size + 1) 22 (.slice A4 (len + k) c4) ∧ w5.ownsRow w.heap.size 5 1 vo L (nats .u8 ob) ∧ w5.ownsRow w.heap.size 5 1 (.slice A4 (len + k) c4) (len + k) (nats .u8 (lits ++ (l.drop i).take k)) ∧ (∀ ad, A4 = some ad → vo.ownBlock ≠ some ad.block) ∧ Below w.heap.size w w5 := hP
              obtain ⟨fr, hfr, hlit⟩ := act_lit a' _ _ [52, 53, 54, 55, 56, 57, 58, 59] hsz hd (fun t ht => hU t (by
                intro i o ho hod
                have := List.mem_filterMap.2 ⟨o, List.mem_of_getElem? ho, hod⟩
                revert this
                exact fun h => ht (by simpa using h)))
              rw [hlit]
              clear hF hU hlit hfr hsz hd
              have H5 : Hid (EncSt w l (i + k) vo A4 (len + k) c4 ob (lits ++ (l.drop i).take k) w5) := by
                refine ⟨k1, k2, by rw [← HL.out]; exact ko, kl, ka, kb, by rw [← HL.out]; omega, out, f', Hout.out, Hf'.out, ?_⟩
                have := Henc'.out
                rw [if_neg h3r] at this
                exact this
              clear k1 k2 ko kl ka kb
              go_wp2_with fail
              exact ⟨⟨i + k, vo, A4, len + k, c4, ob, _, by omega, by first | rfl | simp, H5.out⟩, by simp only [intOf]; omega⟩
    · obtain rfl : i = n := by omega
      obtain ⟨vB, hbl, hown, hlo, hap, hbel, hfew, out, f, hout, hf, henc⟩ := hst
      have hdr : l.drop i = [] := List.drop_eq_nil_of_le (by have := Hlen.out; omega)
      rw [hdr, encG_end] at henc
      have hlits : lits.length = len := by have := hlo.1; rw [nats_length, Nat.mul_one] at this; exact this
      have hchl := chunks_length (lits.length + 1) lits (by omega)
      have Hfl := Lib.hid (flush_p w.heap.size (w.heap.size + 1) w.heap.size len cap A vo ob lits wr vB hbl (by omega) (Nat.le_refl _) (by omega) hown hlo hap (by omega) (by omega))
      have hres : ob ++ runsB (chunks (lits.length + 1) lits) = runsB (encS l) := by rw [← henc, runsB_append, hout]
      have Hres := Lib.hid hres
      clear vB hbl hown hlo hap hout hf henc hdr hlits hchl hres Hst
      go_wp2_with fail
      refine Hfl.out.mono ?_
      rintro e w4 ⟨⟨v4, rfl⟩, vo2, vB2, bl2, own2, hb2⟩
      rw [Hres.out] at own2
      obtain ⟨A5, c5, rfl, s5⟩ := Sl.of_own own2 (nats_one _ _)
      have hbel2 := hbel.trans hb2
      have cB2 := vB2.cell
      obtain ⟨M, hM⟩ : ∃ M, M = (runsB (encS l)).length := ⟨_, rfl⟩
      rw [← hM] at s5 cB2
      have Hclip := Lib.hid (clip_u8 A5 M c5 _ w4 s5)
      clear own2 s5 vB2 bl2 hM
      go_wp2_with fail
      refine Hclip.out.mono ?_
      rintro e w6 ⟨rfl, s6, rfl⟩
      have Hs6 := Lib.hid s6
      clear s6
      go_wp2_with fail
      go_ret
      exact ⟨_, _, rfl, Hs6.out, hbel2⟩
end Go.Proofs.Ytcmmgehghlaofaa
