/- RunParts: the walk. -/
import Derived.Test.YtcmmgehghlaofaaPartRow
import Derived.Test.YtcmmgehghlaofaaRegionQ
import Derived.Test.YtcmmgehghlaofaaBrleLaw
namespace Go.Proofs.Ytcmmgehghlaofaa
open Go.RowKit
set_option linter.unusedVariables false

def AP (v u : Value) : Prop := v.ownBlock = none ∨ u.ownBlock = none ∨ v.ownBlock ≠ u.ownBlock

structure PSt (w1 : World) (i m k : Nat) (rs : List Run) (vb vw : Value) (wr : World) : Prop where
  ok : runsOk rs
  hm : (runsB rs).length = m
  hk : (runsT rs).length = k
  own : wr.ownsRow w1.heap.size 5 1 vb m (nats .u8 (runsB rs))
  tol : wr.ownsRow w1.heap.size 5 1 vw k (nats .u8 (runsT rs))
  ap : AP vb vw
  bel : Below w1.heap.size w1 wr
  m8 : m ≤ 130 * i
  k8 : k ≤ 130 * i

theorem ap_of {vw x : Value} (h : ∀ k, x.ownBlock = some k → vw.ownBlock ≠ some k) : vw.ownBlock = none ∨ vw.ownBlock ≠ x.ownBlock := by
  cases hx : x.ownBlock with
  | none => cases hv : vw.ownBlock with
    | none => exact .inl rfl
    | some k => exact .inr (by simp)
  | some k => exact .inr (h k hx)
theorem ap_mk {vw x : Value} (h : ∀ k, x.ownBlock = some k → vw.ownBlock ≠ some k) : AP x vw := by
  cases hx : x.ownBlock with
  | none => exact .inl hx
  | some k => exact .inr (.inr (by rw [hx]; exact (h k hx).symm))
theorem AP.symm {v u : Value} (h : AP v u) : AP u v := by
  rcases h with h | h | h
  · exact .inr (.inl h)
  · exact .inl h
  · exact .inr (.inr (Ne.symm h))
theorem AP.rev {v u : Value} (h : AP v u) : u.ownBlock = none ∨ u.ownBlock ≠ v.ownBlock := by
  rcases h with h | h | h
  · cases hu : u.ownBlock with
    | none => exact .inl rfl
    | some k => right; rw [h]; simp
  · exact .inl h
  · exact .inr (Ne.symm h)
theorem AP.fwd {v u : Value} (h : AP v u) : v.ownBlock = none ∨ v.ownBlock ≠ u.ownBlock := by
  rcases h with h | h | h
  · exact .inl h
  · cases hu : v.ownBlock with
    | none => exact .inl rfl
    | some k => right; rw [h]; simp
  · exact .inr h
theorem ap_new {w : World} {base : Nat} {e : TypeId} {size n : Nat} {v v' vo : Value} {xs : List Value} (hap : vo.ownBlock = none ∨ vo.ownBlock ≠ v.ownBlock) (ho : w.ownsRow base e size vo n xs) (hv : v'.ownBlock = v.ownBlock ∨ v'.ownBlock = some w.heap.size) : AP vo v' := by
  cases hk : v'.ownBlock with
  | none => exact .inr (.inl hk)
  | some k => exact .inr (.inr (by rw [hk]; exact apart_new hap ho hk hv))
/-- A block of another type is not a slice's own row. -/
theorem not_row {w : World} {B n base size : Nat} {t e : TypeId} {cs : Array Value} {fr : Nat × Nat} {v : Value} {xs : List Value} (h : w.heap[B]? = some (.cells cs t fr)) (hte : t ≠ e) (hr : w.ownsRow base e size v n xs) : some B ≠ v.ownBlock := by
  rcases hr.2 with ⟨rfl, _⟩ | ⟨g, cap, cur, rfl, _, hgb, _⟩
  · simp [Value.ownBlock]
  · intro e'
    obtain rfl : B = g := by simpa [Value.ownBlock] using e'
    rw [h] at hgb
    injection hgb with hgb
    injection hgb with _ h2
    exact hte h2
theorem opk_field2 {o : Oper} {ρ : Operand → Value} {w : World} {K : Value → World → Prop} {x : Operand} {B : Nat} (h : o.op = .fieldAddr 34 x 2) (hx : ρ x = .pointer (some ⟨B, 0, none⟩)) (hK : K (.pointer (some ⟨B, 2, none⟩)) w) : OpK Try.prog o ρ w K :=
  opk_run (by simp [execOp, h, hx, go_sem]; try rfl) hK
theorem opk_build1 {o : Oper} {ρ : Operand → Value} {w : World} {K : Value → World → Prop} {x : Operand} {a : Int} (h : o.op = .buildSlice 22 1 #[(0, x)]) (hx : ρ x = .int .u8 a) (hK : K (.slice (some ⟨w.heap.size, 0, none⟩) 1 1) (w.alloc (.cells #[.int .u8 a] 5))) : OpK Try.prog o ρ w K :=
  opk_run (by simp [execOp, h, hx, go_sem]) hK

set_option maxHeartbeats 6400000 in
set_option maxRecDepth 100000 in
theorem law_RunParts (A : Option Addr) (n c : Nat) (ps : List PartV) (w : World) (hp : Parts w A n c ps) :
    Calls Try.prog 5 #[.slice A n c] w fun e w' => e = .returned (.bool true) ∧ Below w.heap.size w w' := by
  have hle := hp.le
  have hmax := hp.max
  unfold maxLen at hmax
  obtain ⟨i0, hi, hz0, hz1, hz2⟩ := info_parts Try.info5
  have Hp := Lib.hid hp
  clear hp
  by_cases hn : n ≤ 30
  · go_enter Try.func5, Try.ntmps5
    go_wp2_with fail
    refine (known6 _).mono ?_
    rintro e w1 ⟨rfl, hb1⟩
    go_wp2_with fail
    have H0 : PSt w1 0 0 0 [] (.slice none 0 0) (.slice none 0 0) w1 := ⟨(fun r hr => by cases hr), rfl, rfl, World.ownsRow_nil _ _ _ _, World.ownsRow_nil _ _ _ _, .inl rfl, Below.refl _ _, by omega, by omega⟩
    go_loopw [3, 4, 5] (fun bv wv iv wr => ∃ (i m k : Nat) (rs : List Run) (Ab Aw : Option Addr) (cb cw : Nat), i ≤ n ∧ iv = .int .i64 (i : Int) ∧ bv = .slice Ab m cb ∧ wv = .slice Aw k cw ∧ PSt w1 i m k rs (.slice Ab m cb) (.slice Aw k cw) wr) (fun _ _ iv _ => n - (intOf iv).toNat)
    case atStart => exact ⟨0, 0, 0, [], none, none, 0, 0, by omega, rfl, rfl, rfl, H0⟩
    case round =>
      obtain ⟨i, m, k, rs, Ab, Aw, cb, cw, hi', rfl, rfl, rfl, hst⟩ := hrel
      have Hst := Lib.hid hst
      have hbel := hst.bel
      have hm8 := hst.m8
      have hk8 := hst.k8
      clear hst
      by_cases hlt : i < n
      · obtain ⟨b, off, rfl, hbw, hat⟩ := Hp.out.at_ (by omega)
        have hpl := Hp.out.hlen
        obtain ⟨p, hpi⟩ : ∃ p, ps[i]? = some p := ⟨ps[i]'(by omega), List.getElem?_eq_getElem (by omega)⟩
        have hpa := hat i p hpi
        have B1 := below_trans' hb1 hbel
        obtain ⟨pc, pn, pA, plen, pcap, plit⟩ := p
        have k0 : wr.cell? ⟨b, off + i * 3, none⟩ = some (.int .u8 (pc : Int)) := (B1.cell (p := ⟨b, off + i * 3, none⟩) hbw).trans hpa.c0
        have k1 : wr.cell? ⟨b, off + i * 3 + 1, none⟩ = some (.int .i64 pn) := (B1.cell (p := ⟨b, off + i * 3 + 1, none⟩) hbw).trans hpa.c1
        have k2 : wr.cell? ⟨b, off + i * 3 + 2, none⟩ = some (.slice pA plen pcap) := (B1.cell (p := ⟨b, off + i * 3 + 2, none⟩) hbw).trans hpa.c2
        have hpn := hpa.nb
        have hpcb : pc < 256 := hpa.cb
        have hpsl := hpa.sl.le
        have hpsm := hpa.sl.max
        have hlitl : plit.length = plen := by have := hpa.sl.len; rw [nats_length] at this; exact this
        unfold maxLen at hpsm
        simp only at hpn hpsl hpsm
        have Hlit : Hid (Sl w pA plen pcap (nats .u8 plit)) := hpa.sl
        have Hl8 : Hid (∀ x ∈ plit, x < 256) := hpa.l8
        have Hlitl := Lib.hid hlitl
        have HB1 := Lib.hid B1
        have Hown := Lib.hid Hst.out.own
        have Htol := Lib.hid Hst.out.tol
        have Hap := Lib.hid Hst.out.ap.rev
        have hBx := below_new wr (.cells #[Value.int .u8 (pc : Int), Value.int .i64 pn, Value.slice pA plen pcap] 34)
        clear hat hpi hpa hpl hlitl
        by_cases h128 : plen ≤ 128
        · by_cases h0 : 0 < plen
          · have hownB := World.ownsRow.below Hown.out hBx
            have htolB := World.ownsRow.below Htol.out hBx
            have HhownB := Lib.hid hownB
            have HhtolB := Lib.hid htolB
            clear hownB htolB
            go_wp2_with fail
            have Hbox : Hid ((wr.alloc (.cells #[Value.int .u8 (pc : Int), Value.int .i64 pn, Value.slice pA plen pcap] 34)).cell? ⟨wr.heap.size, 2, none⟩ = some (.slice pA plen pcap)) := by
              have := cell_of_row (wr.alloc (.cells #[Value.int .u8 (pc : Int), Value.int .i64 pn, Value.slice pA plen pcap] 34)) wr.heap.size 2 _ _ (0, 0) (heap_alloc_new wr _)
              rw [Hid, this]; rfl
            clear Hown Htol
            have Hown := HhownB
            have Htol := HhtolB
            refine region_putQ _ [Fact.is (.slice Ab m cb), Fact.is (.pointer (some ⟨wr.heap.size, 2, none⟩)), Fact.is (.slice pA plen pcap), Fact.is (.int .i64 (plen : Int)), Fact.is (.int .i64 (256 - (plen : Int))), Fact.is (.int .u8 ((256 - plen : Nat) : Int)), Fact.sl 1 (nats .u8 [256 - plen]), Fact.ownA w1.heap.size 5 (m + 1) (nats .u8 (runsB rs ++ [256 - plen])) (.slice Aw k cw), Fact.is (.pointer (some ⟨wr.heap.size, 2, none⟩)), Fact.is (.slice pA plen pcap), Fact.ownA w1.heap.size 5 (m + 1 + plen) (nats .u8 (runsB rs ++ [256 - plen] ++ plit)) (.slice Aw k cw), Fact.ownA w1.heap.size 5 (m + 1 + plen) (nats .u8 (runsB rs ++ [256 - plen] ++ plit)) (.slice Aw k cw)] [[(3, none)], [(6, none)], [(56, some 1)], [(57, some 2)], [(58, some 3)], [(59, some 4)], [(60, some 5)], [(55, some 0), (61, some 6)], [(6, none)], [(63, some 8)], [(62, some 7), (64, some 9)], [(65, some 10)]] [true, true, true, true, true, true, true, true, true, true, true, true] [.pre, .pre, .pre, .pre, .pre, .pre, .pre, .put, .pure, .pure, .store, .late] [true, true, true, true, true, true, false, false, true, true, false, false] 7 10 (fun w' => w'.ownsRow w1.heap.size 5 1 (.slice Aw k cw) k (nats .u8 (runsT rs)) ∧ w'.heap[wr.heap.size]? = some (.cells #[Value.int .u8 (pc : Int), Value.int .i64 pn, Value.slice pA plen pcap] 34 (0, 0)) ∧ Below w1.heap.size w1 w') (fun w' => w'.ownsRow w1.heap.size 5 1 (.slice Aw k cw) k (nats .u8 (runsT rs)) ∧ w'.heap[wr.heap.size]? = some (.cells #[Value.int .u8 (pc : Int), Value.int .i64 pn, Value.slice pA plen pcap] 34 (0, 0)) ∧ Below w1.heap.size w1 w') (by kernel_rfl) (by kernel_rfl) (by kernel_rfl) ⟨fun _ => Fact.free_is _, fun _ => Fact.free_is _, fun _ => Fact.free_is _, fun _ => Fact.free_is _, fun _ => Fact.free_is _, fun _ => Fact.free_is _, (fun h => by cases h), (fun h => by cases h), fun _ => Fact.free_is _, fun _ => Fact.free_is _, (fun h => by cases h), (fun h => by cases h), trivial⟩ ⟨⟨?_, ?_⟩, ⟨?_, ?_⟩, ⟨?_, ?_⟩, ⟨?_, ?_⟩, ⟨?_, ?_⟩, ⟨?_, ?_⟩, ⟨?_, ?_⟩, ⟨?_, ?_⟩, ⟨?_, ?_⟩, ⟨?_, ?_⟩, ⟨?_, ?_⟩, ⟨?_, ?_⟩, trivial⟩ ?_
            · intro ρ w' hc hB h3
              refine chain_run rfl ?_
              exact opk_move rfl ⟨Below.refl _ _, h3⟩
            · exact rfl
            · intro ρ w' hc hB h6
              refine chain_run rfl ?_
              exact opk_field2 rfl (show ρ (.tmp 6) = .pointer (some ⟨wr.heap.size, 0, none⟩) from h6) ⟨Below.refl _ _, rfl⟩
            · exact rfl
            · intro ρ w' hc hB h56
              refine chain_run rfl ?_
              exact opk_load_slice rfl h56 ((hB.cell (p := ⟨wr.heap.size, 2, none⟩) (by simp)).trans Hbox.out) ⟨Below.refl _ _, rfl⟩
            · exact rfl
            · intro ρ w' hc hB h57
              refine chain_run rfl ?_
              exact opk_len Try.underlying22 rfl h57 ⟨Below.refl _ _, rfl⟩
            · exact rfl
            · intro ρ w' hc hB h58
              refine chain_run rfl ?_
              exact opk_sub_i64 rfl (hc.1 _) h58 (by omega) ⟨Below.refl _ _, rfl⟩
            · exact rfl
            · intro ρ w' hc hB h59
              refine chain_run rfl ?_
              exact opk_byte rfl h59 ⟨Below.refl _ _, congrArg (Value.int .u8) (by omega)⟩
            · exact rfl
            · intro ρ w' hc hB h60
              refine chain_run rfl ?_
              exact opk_build1 rfl h60 ⟨below_new _ _, _, _, rfl, Sl.lit w' (nats .u8 [256 - plen]) 1 _ rfl (by decide) (nats_one _ _)⟩
            · exact rfl
            · intro ρ w' hc hB h55 h61
              refine chain_run rfl ?_
              obtain ⟨A_, c_, e_, s_⟩ := h61
              refine opk_append_own Try.underlying22 hi hz0 hz1 hz2 rfl rfl h55 (World.ownsRow.below Hown.out hB) e_ s_ (by unfold maxLen; omega) (by omega) (by have := hB.size; simp at this; have := hbel.size; omega) ?_
              intro v' w4 hb4 ho4 hg4 hv4
              rw [← nats_append] at ho4
              have kr := World.ownsRow.below Hown.out hB
              have kw := World.ownsRow.below Htol.out hB
              have kb := (hB.block _ (show wr.heap.size < (wr.alloc (.cells #[Value.int .u8 (pc : Int), Value.int .i64 pn, Value.slice pA plen pcap] 34)).heap.size by simp)).trans (heap_alloc_new wr (.cells #[Value.int .u8 (pc : Int), Value.int .i64 pn, Value.slice pA plen pcap] 34))
              refine ⟨⟨kw.kept hg4 Hap.out, (hg4.block _ (by have := hB.size; simp at this; omega) (not_row kb (by decide) kr)).trans kb, ((hbel.alloc hbel.size _).trans (hB.mono (by simp; have := hbel.size; omega))).trans hb4⟩, ho4, fun k hk => apart_new Hap.out kw hk hv4⟩
            · exact rfl
            · intro ρ w' hc hB h6
              refine chain_run rfl ?_
              exact opk_field2 rfl (show ρ (.tmp 6) = .pointer (some ⟨wr.heap.size, 0, none⟩) from h6) ⟨rfl, rfl⟩
            · exact rfl
            · intro ρ w' hc hB h63
              refine chain_run rfl ?_
              have hcell : w'.cell? ⟨wr.heap.size, 2, none⟩ = some (.slice pA plen pcap) := by
                rcases hB with hB | ⟨_, hB, _⟩ | ⟨_, hB, _⟩
                · exact (hB.cell (p := ⟨wr.heap.size, 2, none⟩) (by simp)).trans Hbox.out
                · rw [cell_of_row w' _ 2 _ _ _ hB]; rfl
                · rw [cell_of_row w' _ 2 _ _ _ hB]; rfl
              exact opk_load_slice rfl h63 hcell ⟨rfl, rfl⟩
            · exact rfl
            · intro ρ w' hc hB h62 h64
              refine chain_run rfl ?_
              obtain ⟨kw, kb, kbl⟩ := hB
              obtain ⟨ho, ha⟩ : w'.ownsRow w1.heap.size 5 1 (ρ (.tmp 62)) (m + 1) (nats .u8 (runsB rs ++ [256 - plen])) ∧ ∀ k_, (ρ (.tmp 62)).ownBlock = some k_ → (Value.slice Aw k cw).ownBlock ≠ some k_ := h62
              have hap2 := ap_of ha
              refine opk_append_own Try.underlying22 hi hz0 hz1 hz2 rfl rfl rfl ho h64 (Hlit.out.keep (hb1.trans (kbl.mono hb1.size))) (by unfold maxLen; omega) (by omega) kbl.size ?_
              intro v' w4 hb4 ho4 hg4 hv4
              rw [← nats_append] at ho4
              refine ⟨⟨kw.kept hg4 hap2, (hg4.block _ (Array.getElem?_eq_some_iff.1 kb).1 (not_row kb (by decide) ho)).trans kb, kbl.trans hb4⟩, ho4, fun k hk => apart_new hap2 kw hk hv4⟩
            · exact rfl
            · intro ρ w' hc hB h65
              refine chain_run rfl ?_
              exact opk_assign rfl ⟨rfl, h65⟩
            · exact rfl
            intro a' w5 hP hsz hd hF hU
            obtain ⟨kw, kb, kbl⟩ : w5.ownsRow w1.heap.size 5 1 (.slice Aw k cw) k (nats .u8 (runsT rs)) ∧ w5.heap[wr.heap.size]? = some (.cells #[Value.int .u8 (pc : Int), Value.int .i64 pn, Value.slice pA plen pcap] 34 (0, 0)) ∧ Below w1.heap.size w1 w5 := hP
            have h3f := hF 11 _ 3 rfl rfl rfl
            obtain ⟨ff, hff, hlit⟩ := act_put a' _ _ [55, 56, 57, 58, 59, 60, 61, 62, 63, 64, 65, 3] hsz hd (fun t ht => hU t (by
              intro i o ho hod
              have := List.mem_filterMap.2 ⟨o, List.mem_of_getElem? ho, hod⟩
              revert this
              exact fun h => ht (by simpa using h)))
            rw [← hff] at h3f
            obtain ⟨h3o, h3a⟩ : w5.ownsRow w1.heap.size 5 1 (ff 3) (m + 1 + plen) (nats .u8 (runsB rs ++ [256 - plen] ++ plit)) ∧ ∀ k_, (ff 3).ownBlock = some k_ → (Value.slice Aw k cw).ownBlock ≠ some k_ := h3f
            obtain ⟨A6, c6, e6, s6⟩ := Sl.of_own h3o (nats_one _ _)
            rw [e6] at h3o h3a
            simp only [List.foldl_cons, List.foldl_nil, e6] at hlit
            rw [hlit]
            have hap6 := ap_mk h3a
            have kcell : w5.cell? ⟨wr.heap.size, 2, none⟩ = some (.slice pA plen pcap) := by rw [cell_of_row w5 _ 2 _ _ _ kb]; rfl
            have hl5 := Hlit.out.keep (hb1.trans (kbl.mono hb1.size))
            have H3o := Lib.hid h3o
            have Hap6 := Lib.hid hap6
            have Kw := Lib.hid kw
            clear hF hU hlit hff hsz hd h3o h3a s6 e6 hap6 kb kw HhownB HhtolB Hown Htol Hap Hbox k0 k1 k2
            go_wp2_with (at_builtin; refine wpList_append_sl rfl (.tmp 66) (.tmp 68) 22 rfl w1.heap.size 5 i0 (.int .u8 0) 1 Try.underlying22 hi hz0 hz1 hz2 rfl _ k _ rfl Kw.out pA plen pcap _ rfl hl5 ?c1 ?c2 ?c3 ?_)
            case c1 => unfold maxLen; omega
            case c2 => omega
            case c3 => exact kbl.size
            intro v7 w7 ho7 hb7 hg7 hv7
            have H7 : Hid (PSt w1 (i + 1) (m + 1 + plen) (k + plen) (rs ++ [.lit plit]) (.slice A6 (m + 1 + plen) c6) v7 w7) := by
              have hB : runsB (rs ++ [.lit plit]) = runsB rs ++ [256 - plen] ++ plit := by rw [runsB_append]; simp [runsB, Run.bytes, Hlitl.out]
              have hT : runsT (rs ++ [.lit plit]) = runsT rs ++ plit := by rw [runsT_append]; simp [runsT, Run.told]
              refine ⟨runsOk_append Hst.out.ok (fun r hr => ?_), ?_, ?_, ?_, ?_, ap_new Hap6.out.fwd H3o.out hv7, kbl.trans hb7, by omega, by omega⟩
              · rw [List.mem_singleton] at hr
                subst hr
                exact ⟨by rw [Hlitl.out]; exact h0, by rw [Hlitl.out]; exact h128, Hl8.out⟩
              · rw [hB]; simp [Hst.out.hm, Hlitl.out]; omega
              · rw [hT]; simp [Hst.out.hk, Hlitl.out]
              · rw [hB]; exact H3o.out.kept hg7 Hap6.out.fwd
              · rw [hT, nats_append]; exact ho7
            obtain ⟨A7, c7, rfl, s7⟩ := Sl.of_own H7.out.tol (nats_one _ _)
            clear ho7 hb7 hg7 hv7 s7 hl5 kcell
            go_wp2_with fail
            exact ⟨⟨i + 1, m + 1 + plen, k + plen, rs ++ [.lit plit], A6, A7, c6, c7, by omega, by first | rfl | simp, by first | rfl | trivial, by first | rfl | trivial, H7.out⟩, by simp only [intOf]; omega⟩
          · obtain rfl : plen = 0 := by omega
            by_cases h3 : 3 ≤ pn
            · by_cases h130 : pn ≤ 130
              · obtain ⟨N, rfl⟩ : ∃ N : Nat, pn = (N : Int) := ⟨pn.toNat, by omega⟩
                have hownB := World.ownsRow.below Hown.out hBx
                have htolB := World.ownsRow.below Htol.out hBx
                have HhownB := Lib.hid hownB
                have HhtolB := Lib.hid htolB
                have hszB := hbel.size
                clear hownB htolB Hown Htol
                have hslx : Sl ((wr.alloc (.cells #[Value.int .u8 (pc : Int), Value.int .i64 (N : Int), Value.slice pA 0 pcap] 34)).alloc (.cells #[Value.int .u8 ((N : Int) - 3), Value.int .u8 (pc : Int)] 5)) (some ⟨wr.heap.size + 1, 0, none⟩) 2 2 [Value.int .u8 ((N : Int) - 3), Value.int .u8 (pc : Int)] := by
                  have := Sl.lit (wr.alloc (.cells #[Value.int .u8 (pc : Int), Value.int .i64 (N : Int), Value.slice pA 0 pcap] 34)) [Value.int .u8 ((N : Int) - 3), Value.int .u8 (pc : Int)] 2 5 rfl (by decide) (by intro u hu; simp at hu; rcases hu with rfl | rfl <;> rfl)
                  rwa [World.size_alloc] at this
                go_wp2_with (at_builtin; refine wpList_append_sl rfl (.tmp 70) (.tmp 77) 22 rfl w1.heap.size 5 i0 (.int .u8 0) 1 Try.underlying22 hi hz0 hz1 hz2 rfl _ m _ rfl (HhownB.out.alloc _) (some ⟨wr.heap.size + 1, 0, none⟩) 2 2 _ rfl hslx ?c1 ?c2 ?c3 ?_)
                case c1 => unfold maxLen; omega
                case c2 => omega
                case c3 => first | omega | (simp; omega)
                intro v6 w6 ho6 hb6 hg6 hv6
                have kbB := heap_alloc_new wr (.cells #[Value.int .u8 (pc : Int), Value.int .i64 (N : Int), Value.slice pA 0 pcap] 34)
                have kb6 : w6.heap[wr.heap.size]? = some (.cells #[Value.int .u8 (pc : Int), Value.int .i64 (N : Int), Value.slice pA 0 pcap] 34 (0, 0)) :=
                  ((hg6.block _ (by simp; omega) (not_row kbB (by decide) HhownB.out)).trans (Below.heap_alloc _ _ _ (by simp))).trans kbB
                have kw6 := (HhtolB.out.alloc (.cells #[Value.int .u8 ((N : Int) - 3), Value.int .u8 (pc : Int)] 5)).kept hg6 Hap.out
                have kbl6 : Below w1.heap.size w1 w6 := ((hbel.alloc hszB (.cells #[Value.int .u8 (pc : Int), Value.int .i64 (N : Int), Value.slice pA 0 pcap] 34)).alloc (by simp; omega) _).trans hb6
                have hap6 : AP v6 (.slice Aw k cw) := (ap_new Hap.out (HhtolB.out.alloc (.cells #[Value.int .u8 ((N : Int) - 3), Value.int .u8 (pc : Int)] 5)) (by simpa using hv6)).symm
                have ho6' : w6.ownsRow w1.heap.size 5 1 v6 (m + 2) (nats .u8 (runsB rs ++ [N - 3, pc])) := by
                  rw [nats_append]
                  have : nats .u8 [N - 3, pc] = [Value.int .u8 ((N : Int) - 3), Value.int .u8 (pc : Int)] := by
                    show [Value.int .u8 ((N - 3 : Nat) : Int), Value.int .u8 (pc : Int)] = _
                    rw [show ((N - 3 : Nat) : Int) = (N : Int) - 3 from by omega]
                  rw [this]
                  exact ho6
                obtain ⟨A6, c6, rfl, s6⟩ := Sl.of_own ho6' (nats_one _ _)
                have L0 : Hid (w6.ownsRow w1.heap.size 5 1 (.slice A6 (m + 2) c6) (m + 2) (nats .u8 (runsB rs ++ [N - 3, pc])) ∧ w6.ownsRow w1.heap.size 5 1 (.slice Aw (k + 0) cw) (k + 0) (nats .u8 (runsT rs ++ List.replicate 0 pc)) ∧ AP (.slice A6 (m + 2) c6) (.slice Aw (k + 0) cw) ∧
                    w6.heap[wr.heap.size]? = some (.cells #[Value.int .u8 (pc : Int), Value.int .i64 (N : Int), Value.slice pA 0 pcap] 34 (0, 0)) ∧ Below w1.heap.size w1 w6) :=
                  ⟨ho6', by simpa using kw6, hap6, kb6, kbl6⟩
                clear ho6 hb6 hg6 hv6 kbB kb6 kw6 kbl6 hap6 ho6' s6 hslx HhownB HhtolB k0 k1 k2 Hap
                generalize hBn : wr.heap.size = Bn at *
                have HBn := Lib.hid hBn
                clear hBn
                go_wp2_with fail
                go_loopw [4, 7] (fun wv kv wq => ∃ (j : Nat) (Aq : Option Addr) (cq : Nat), j ≤ N ∧ kv = .int .i64 (j : Int) ∧ wv = .slice Aq (k + j) cq ∧ Hid (wq.ownsRow w1.heap.size 5 1 (.slice A6 (m + 2) c6) (m + 2) (nats .u8 (runsB rs ++ [N - 3, pc])) ∧ wq.ownsRow w1.heap.size 5 1 (.slice Aq (k + j) cq) (k + j) (nats .u8 (runsT rs ++ List.replicate j pc)) ∧ AP (.slice A6 (m + 2) c6) (.slice Aq (k + j) cq) ∧
                    wq.heap[Bn]? = some (.cells #[Value.int .u8 (pc : Int), Value.int .i64 (N : Int), Value.slice pA 0 pcap] 34 (0, 0)) ∧ Below w1.heap.size w1 wq)) (fun _ kv _ => N - (intOf kv).toNat)
                case atStart => exact ⟨0, Aw, cw, by omega, rfl, rfl, L0.out⟩
                case round =>
                  obtain ⟨j, Aq, cq, hj, rfl, rfl, HL⟩ := hrel
                  obtain ⟨l1, l2, l3, l4, l5⟩ := HL.out
                  have e0 := cell_of_row _ Bn 0 _ _ (0, 0) l4
                  have e1 := cell_of_row _ Bn 1 _ _ (0, 0) l4
                  simp only [List.getElem?_toArray, List.getElem?_cons_zero, List.getElem?_cons_succ] at e0 e1
                  have hszq := l5.size
                  have L1 := Lib.hid l1
                  have L2 := Lib.hid l2
                  have L3 := Lib.hid l3
                  have L4 := Lib.hid l4
                  have L5 := Lib.hid l5
                  clear l1 l2 l3 l4 l5
                  by_cases hjl : j < N
                  · go_wp2_with (at_builtin; refine wpList_append_sl rfl (.tmp 85) (.tmp 88) 22 rfl w1.heap.size 5 i0 (.int .u8 0) 1 Try.underlying22 hi hz0 hz1 hz2 rfl _ (k + j) _ rfl (L2.out.alloc _) (some ⟨_, 0, none⟩) 1 1 [.int .u8 (pc : Int)] rfl (Sl.one_new _ (.int .u8 (pc : Int)) _ rfl) ?c1 ?c2 ?c3 ?_)
                    case c1 => unfold maxLen; omega
                    case c2 => omega
                    case c3 => first | omega | (simp; omega)
                    intro v7 w7 ho7 hb7 hg7 hv7
                    have ho7' : w7.ownsRow w1.heap.size 5 1 v7 (k + (j + 1)) (nats .u8 (runsT rs ++ List.replicate (j + 1) pc)) := by
                      rw [List.replicate_succ', ← List.append_assoc, nats_append]
                      exact ho7
                    obtain ⟨A7, c7, rfl, s7⟩ := Sl.of_own ho7' (nats_one _ _)
                    have LN : Hid (w7.ownsRow w1.heap.size 5 1 (.slice A6 (m + 2) c6) (m + 2) (nats .u8 (runsB rs ++ [N - 3, pc])) ∧ w7.ownsRow w1.heap.size 5 1 (.slice A7 (k + (j + 1)) c7) (k + (j + 1)) (nats .u8 (runsT rs ++ List.replicate (j + 1) pc)) ∧ AP (.slice A6 (m + 2) c6) (.slice A7 (k + (j + 1)) c7) ∧
                        w7.heap[Bn]? = some (.cells #[Value.int .u8 (pc : Int), Value.int .i64 (N : Int), Value.slice pA 0 pcap] 34 (0, 0)) ∧ Below w1.heap.size w1 w7) :=
                      ⟨(L1.out.alloc _).kept hg7 L3.out.fwd, ho7', ap_new L3.out.fwd (L1.out.alloc (.cells #[Value.int .u8 (pc : Int)] 5)) (by simpa using hv7),
                        ((hg7.block _ (by have := (Array.getElem?_eq_some_iff.1 L4.out).1; simp; omega) (not_row L4.out (by decide) L2.out)).trans (Below.heap_alloc _ _ _ (Array.getElem?_eq_some_iff.1 L4.out).1)).trans L4.out, (L5.out.alloc hszq _).trans hb7⟩
                    clear ho7 hb7 hg7 hv7 ho7' s7
                    go_wp2_with fail
                    exact ⟨⟨j + 1, A7, c7, by omega, by first | rfl | simp, by first | rfl | trivial, LN.out⟩, by simp only [intOf]; omega⟩
                  · obtain rfl : N = j := by omega
                    have H7 : Hid (∀ wq : World, wq.ownsRow w1.heap.size 5 1 (.slice A6 (m + 2) c6) (m + 2) (nats .u8 (runsB rs ++ [N - 3, pc])) → wq.ownsRow w1.heap.size 5 1 (.slice Aq (k + N) cq) (k + N) (nats .u8 (runsT rs ++ List.replicate N pc)) → Below w1.heap.size w1 wq →
                        PSt w1 (i + 1) (m + 2) (k + N) (rs ++ [.rep pc N]) (.slice A6 (m + 2) c6) (.slice Aq (k + N) cq) wq) := by
                      refine Lib.hid (fun wq q1 q2 q5 => ?_)
                      have hB : runsB (rs ++ [.rep pc N]) = runsB rs ++ [N - 3, pc] := by rw [runsB_append]; simp [runsB, Run.bytes]
                      have hT : runsT (rs ++ [.rep pc N]) = runsT rs ++ List.replicate N pc := by rw [runsT_append]; simp [runsT, Run.told]
                      refine ⟨runsOk_append Hst.out.ok (fun r hr => ?_), ?_, ?_, by rw [hB]; exact q1, by rw [hT]; exact q2, L3.out, q5, by omega, by omega⟩
                      · rw [List.mem_singleton] at hr
                        subst hr
                        exact ⟨by omega, by omega, hpcb⟩
                      · rw [hB]; simp [Hst.out.hm]
                      · rw [hT]; simp [Hst.out.hk]
                    go_wp2_with fail
                    exact ⟨⟨i + 1, m + 2, k + N, rs ++ [.rep pc N], A6, Aq, c6, cq, by omega, by first | rfl | simp, by first | rfl | trivial, by first | rfl | trivial, H7.out _ L1.out L2.out L5.out⟩, by simp only [intOf]; omega⟩
              · go_wp2_with fail
                go_ret
                exact ⟨rfl, HB1.out.trans (hBx.mono HB1.out.size)⟩
            · go_wp2_with fail
              go_ret
              exact ⟨rfl, HB1.out.trans (hBx.mono HB1.out.size)⟩
        · go_wp2_with fail
          go_ret
          exact ⟨rfl, HB1.out.trans (hBx.mono HB1.out.size)⟩
      · have hin : i = n := by omega
        have hpos := Hst.out.ok
        have hsB : Sl wr Ab m cb (nats .u8 (runsB rs)) := by
          obtain ⟨A3, c3, hv, hs3⟩ := Sl.of_own Hst.out.own (nats_one _ _)
          injection hv with e1 e2 e3
          subst e1 e3
          exact hs3
        have hsT : Sl wr Aw k cw (nats .u8 (runsT rs)) := by
          obtain ⟨A3, c3, hv, hs3⟩ := Sl.of_own Hst.out.tol (nats_one _ _)
          injection hv with e1 e2 e3
          subst e1 e3
          exact hs3
        have HsB := Lib.hid hsB
        have HsT := Lib.hid hsT
        have hkk := Hst.out.hk
        have hmm := Hst.out.hm
        have HB := Lib.hid (below_trans' hb1 hbel)
        have hd1 := fun W h => bdec_p Ab m cb rs k W h hpos (by omega)
        rw [decS_all rs [] k hpos (by rw [hkk]; simp)] at hd1
        have hd2 := fun W h => bdec_p Ab m cb rs (k + 1) W h hpos (by omega)
        rw [decS_more rs [] (k + 1) (by rw [hkk]; simp)] at hd2
        have hu := fun W h => bused_p Ab m cb rs k W h hpos (by omega)
        have hus := usedS_all rs [] 0 0 k hpos (by rw [hkk]; simp)
        rw [List.append_nil, hmm, Nat.zero_add] at hus
        rw [hus] at hu
        have Hd1 := Lib.hid hd1
        have Hd2 := Lib.hid hd2
        have Hu := Lib.hid hu
        have hd3 := fun (h0 : 0 < k) W h => bdec_p Ab m cb rs (k - 1) W h hpos (by omega)
        have hd3' : 0 < k → ∀ W, Sl W Ab m cb (nats .u8 (runsB rs)) → Calls Try.prog 24 #[.slice Ab m cb, .int .i64 ((k : Int) - 1)] W fun e w' => ∃ A' m', e = .returned (.tuple #[.slice A' m' m', .int .i64 2]) ∧ Below W.heap.size W w' := fun h0 W h => by
          have h1 := hd3 h0 W h
          rw [decS_less rs [] (k - 1) (by rw [hkk]; simp; omega), show ((k - 1 : Nat) : Int) = (k : Int) - 1 from by omega] at h1
          refine h1.mono ?_
          rintro e w' ⟨A', m', rfl, _, hb⟩
          exact ⟨A', m', rfl, hb⟩
        have Hd3 := Lib.hid hd3'
        clear hpos hsB hsT hkk hmm hd1 hd2 hu hus hd3 hd3' Hp
        go_wp2_with fail
        refine (Hd1.out _ HsB.out).mono ?_
        rintro e w2 ⟨A2, m2, rfl, hs2, hb2⟩
        go_wp2_with fail
        refine (Hd2.out _ (HsB.out.keep hb2)).mono ?_
        rintro e w3 ⟨A3, m3, rfl, hs3, hb3⟩
        have B3 := below_trans' hb2 hb3
        by_cases hk0 : 0 < k
        · go_wp2_with fail
          refine (Hd3.out hk0 _ (HsB.out.keep B3)).mono ?_
          rintro e w4 ⟨A4, m4, rfl, hb4⟩
          have B4 := below_trans' B3 hb4
          go_wp2_with fail
          refine (Hu.out _ (HsB.out.keep B4)).mono ?_
          rintro e w5 ⟨rfl, hb5⟩
          have B5 := below_trans' B4 hb5
          have hs2' := hs2.keep (below_trans' hb3 (below_trans' hb4 hb5))
          rw [List.nil_append] at hs2'
          have q1 := run_convert_sl (P := Try.prog) Try.underlying22 Try.underlying5 Try.underlying9 hs2'
          have q2 := run_convert_sl (P := Try.prog) Try.underlying22 Try.underlying5 Try.underlying9 (HsT.out.keep B5)
          have HB5 := Lib.hid (below_trans' HB.out B5)
          have hkz : ((k : Int) == 0) = false := by rw [beq_eq_false_iff_ne]; omega
          clear hs2 hs3 hs2' hb2 hb3 hb4 hb5 B3 B4 B5
          go_wp2_with fail
          go_ret
          exact ⟨by first | rfl | simp, HB5.out⟩
        · obtain rfl : k = 0 := by omega
          go_wp2_with fail
          refine (bdec_bad Ab m cb (-1) _ (by omega)).mono ?_
          rintro e w4 ⟨rfl, rfl⟩
          go_wp2_with fail
          refine (Hu.out _ (HsB.out.keep B3)).mono ?_
          rintro e w5 ⟨rfl, hb5⟩
          have B5 := below_trans' B3 hb5
          have hs2' := hs2.keep (below_trans' hb3 hb5)
          rw [List.nil_append] at hs2'
          have q1 := run_convert_sl (P := Try.prog) Try.underlying22 Try.underlying5 Try.underlying9 hs2'
          have q2 := run_convert_sl (P := Try.prog) Try.underlying22 Try.underlying5 Try.underlying9 (HsT.out.keep B5)
          have HB5 := Lib.hid (below_trans' HB.out B5)
          clear hs2 hs3 hs2' hb2 hb3 hb5 B3 B5
          go_wp2_with fail
          go_ret
          exact ⟨by first | rfl | simp, HB5.out⟩
  · go_enter Try.func5, Try.ntmps5
    go_wp2_with fail
    refine (known6 _).mono ?_
    rintro e w1 ⟨rfl, hb1⟩
    go_wp2_with fail
    go_ret
    exact ⟨rfl, hb1⟩
end Go.Proofs.Ytcmmgehghlaofaa
