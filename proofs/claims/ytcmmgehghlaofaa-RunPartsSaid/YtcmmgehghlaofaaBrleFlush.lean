/- brle.Encode's flush: what waits goes out in pieces. -/
import Derived.Test.YtcmmgehghlaofaaChunk
import Derived.Test.YtcmmgehghlaofaaBrleMath
namespace Go.Proofs.Ytcmmgehghlaofaa
open Go.RowKit Go.Shelf
set_option linter.unusedVariables false

theorem wpListIn_append_sl {F : Fence} {N : Nat} {P : Program} {w : World} {ops : Array Oper} {rest : List Oper} {o : Oper} {a : Act} {Q : Exit → Act → World → Prop} (hgd : o.guard = none) (s x : Operand) (t : TypeId)
    (ho : o.op = .call { callee := .builtin .append, args := #[s, x], argTypes := #[t, t] })
    (base : Nat) (e : TypeId) (i : TypeInfo) (z : Value) (bytes : Nat) (ht : P.underlying t = some (.slice e)) (hi : P.info? e = some i) (hz : i.zero = some z)
    (hsize : i.size = 1) (hby : i.bytes = bytes) (hzs : z.cells.size = 1)
    (v : Value) (n : Nat) (xs : List Value) (hs : a.eval s = v) (hown : w.ownsRow base e 1 v n xs)
    (A : Option Addr) (m c : Nat) (news : List Value) (hx : a.eval x = .slice A m c) (hr : Sl w A m c news)
    (h63 : n + m ≤ maxLen) (hbytes : (n + m) * bytes ≤ 140737488355328) (hbase : base ≤ w.heap.size)
    (h : ∀ v' w', w'.ownsRow base e 1 v' (n + m) (xs ++ news) → Below base w w' → w.grownBy w' v.ownBlock → (v'.ownBlock = v.ownBlock ∨ v'.ownBlock = some w.heap.size) → wpListIn F N P ops Q rest (a.put o.dst v') w') : wpListIn F N P ops Q (o :: rest) a w := by
  refine wpListIn_plain hgd fun K hK' => ?_
  obtain ⟨v', w', hrun, h2, h3, h4⟩ := run_append_sl (P := P) w base t o.type e i z bytes ht hi hz hsize hby hzs v n xs hown A m c news hr h63 hbytes hbase
  unfold Oper.wpIn
  refine ⟨?_, ?_⟩
  · simp [Oper.about, ho, resolve, Target.leads, Sem.run_pure]
  · rw [Oper.semAt_plain F _ _ (by rw [ho]; intro c hc'; cases hc')]
    simp [execOp, ho, resolve, invoke, builtin, hs, hx, hrun, Result.andThen]
    exact hK' _ _ (h v' w' h2 (below_of_grown hown h3 hbase) h3 h4)

/-- A piece's bytes. -/
def pieceL (xs : List Nat) (x : Nat) : List Nat := (xs.drop (128 * x)).take 128
def pieceB (xs : List Nat) (x : Nat) : List Nat := (256 - (pieceL xs x).length) % 256 :: pieceL xs x
theorem pieceL_length (xs : List Nat) (x : Nat) : (pieceL xs x).length = pieceLen xs.length x := by simp [pieceL, pieceLen]
theorem pieces_all (xs : List Nat) (f : Nat) (hf : xs.length ≤ 128 * f) : (List.range ((xs.length + 127) / 128)).flatMap (pieceB xs) = runsB (chunks f xs) := by
  induction f generalizing xs with
  | zero =>
    have : xs = [] := List.eq_nil_of_length_eq_zero (by omega)
    subst this
    rfl
  | succ f ih =>
    by_cases hx : xs = []
    · subst hx; simp [chunks, runsB]
    · have h0 : 0 < xs.length := List.length_pos_iff.2 hx
      have h1 : (xs.length + 127) / 128 = ((xs.drop 128).length + 127) / 128 + 1 := by rw [List.length_drop]; omega
      have h2 := ih (xs.drop 128) (by rw [List.length_drop]; omega)
      have h3 : chunks (f + 1) xs = .lit (xs.take 128) :: chunks f (xs.drop 128) := if_neg hx
      rw [h3, runsB_cons, ← h2, h1, List.range_succ_eq_map, List.flatMap_cons, List.flatMap_map]
      congr 1
      · have hl : (xs.take 128).length ≤ 128 := by rw [List.length_take]; omega
        have hl1 : 1 ≤ (xs.take 128).length := by rw [List.length_take]; omega
        show (256 - (pieceL xs 0).length) % 256 :: pieceL xs 0 = (256 - (xs.take 128).length) :: xs.take 128
        have : pieceL xs 0 = xs.take 128 := by simp [pieceL]
        rw [this]
        congr 1
        omega
      · congr 1
        funext x
        have : pieceL xs (x + 1) = pieceL (xs.drop 128) x := by
          unfold pieceL
          rw [List.drop_drop]
          congr 2
          omega
        show (256 - (pieceL xs (x + 1)).length) % 256 :: pieceL xs (x + 1) = (256 - (pieceL (xs.drop 128) x).length) % 256 :: pieceL (xs.drop 128) x
        rw [this]
theorem pieceB_le (xs : List Nat) (x : Nat) : (pieceB xs x).length ≤ 129 := by
  have := pieceL_length xs x
  unfold pieceLen at this
  simp only [pieceB, List.length_cons]
  omega
theorem flat_le (xs : List Nat) (pre : List Nat) : (pre.flatMap (pieceB xs)).length ≤ 129 * pre.length := by
  induction pre with
  | nil => simp
  | cons x pre ih =>
    rw [List.flatMap_cons, List.length_append, List.length_cons]
    have := pieceB_le xs x
    omega
theorem flat_snoc (xs : List Nat) (pre : List Nat) (x : Nat) : (pre ++ [x]).flatMap (pieceB xs) = pre.flatMap (pieceB xs) ++ pieceB xs x := by simp

set_option maxHeartbeats 400000 in
theorem chunk_p (A : Option Addr) (n c : Nat) (w : World) :
    Calls Try.prog 64 #[.slice A n c, .int .i64 128] w fun e w' => e = .returned (.func (.func 90) #[] #[.pointer (some ⟨w.heap.size, 0, none⟩), .pointer (some ⟨w.heap.size + 1, 0, none⟩)]) ∧ w' = (w.alloc (.cells #[.slice A n c] 22)).alloc (.cells #[.int .i64 128] 3) := by
  go_enter Try.func64, Try.ntmps64
  go_wp2_with fail
  go_ret
  exact ⟨rfl, rfl⟩

/-- A piece of a row. -/
theorem sl_piece {w : World} {g len cap : Nat} {xs : List Nat} (h : Sl w (some ⟨g, 0, none⟩) len cap (nats .u8 xs)) (x : Nat) : Sl w (some ⟨g, 0 + 128 * x, none⟩) (pieceLen len x) (pieceLen len x) (nats .u8 (pieceL xs x)) := by
  have hl := h.len
  rw [nats_length] at hl
  have hp := pieceL_length xs x
  rw [hl] at hp
  have hm := h.max
  have hle := h.le
  refine ⟨by rw [nats_length, hp], Nat.le_refl _, by unfold pieceLen; omega, (fun h => by cases h), (fun ad had j u hu => ?_), nats_one _ _⟩
  injection had with had
  subst had
  have h2 := h.cells _ rfl (128 * x + j) u (by
    unfold nats pieceL at hu
    unfold nats
    rw [List.getElem?_map] at hu ⊢
    rw [← hu, List.getElem?_take]
    have hj : j < 128 := by
      rcases Nat.lt_or_ge j 128 with h | h
      · exact h
      · rw [List.getElem?_take, if_neg (by omega)] at hu; cases hu
    rw [if_pos hj, List.getElem?_drop])
  rw [add_none] at h2 ⊢
  rw [show 0 + 128 * x + j = 0 + (128 * x + j) from by omega]
  exact h2
theorem chunk_stops (F : Fence) (n : Nat) (hF : F.fn 90) (hro : F.round = none) (hn : 1 ≤ n) (Bs Bn g len cap : Nat) (A : Option Addr) (hA : 0 < len → A = some ⟨g, 0, none⟩) (hlc : len ≤ cap) (hmax' : cap ≤ maxLen) (hmax : len ≤ 1000000000000) (t1 t2 : TypeId) (w : World)
    (hBs : Boxed w Bs t1 (.slice A len cap)) (hBn : Boxed w Bn t2 (.int .i64 128)) :
    SeqStopsK F n Try.prog 90 #[.pointer (some ⟨Bs, 0, none⟩), .pointer (some ⟨Bn, 0, none⟩)] (fun x : Nat => #[pieceV g 0 len x]) (KeepBox Bs Bn) (fun ys => ys = List.range ((len + 127) / 128)) (fun _ => True) ((len + 127) / 128) w := fun l J Jx W hW hJ _ hY h0 =>
  chunk1_in F n hF hro hn l Bs Bn g 0 len cap A hA t1 t2 hlc hmax' hmax J Jx hY W hJ ((hW.block _ hBs.lt).trans hBs) ((hW.block _ hBn.lt).trans hBn) h0

theorem sl_own (A : Option Addr) (len cap : Nat) (xs : List Value) {β : Type} : Own (fun (_ : β) W => Sl W A len cap xs) := fun _ X Y row hs hg hr =>
  ⟨hs.len, hs.le, hs.max, hs.nil, fun ad hA j u hu => cell_kept (hs.cells ad hA j u hu) hg hr, hs.one⟩
theorem boxed_own' (B : Nat) (t : TypeId) (v : Value) {β : Type} : Own (fun (_ : β) W => Boxed W B t v) := fun _ X Y row hs hg hr => hs.kept hg (fun e => by
  obtain ⟨o, ho, hc⟩ := hr B e.symm
  rw [show X.heap[B]? = _ from hs] at ho; cases ho; cases hc)

/-- What flush keeps between two pieces. -/
structure FlushI (n₀ Bo Bl : Nat) (A : Option Addr) (len cap : Nat) (ob xs : List Nat) (w0 : World) (pre : List Nat) (W : World) : Prop where
  out : ∃ v, Boxed W Bo 22 v ∧ W.ownsRow n₀ 5 1 v (ob ++ pre.flatMap (pieceB xs)).length (nats .u8 (ob ++ pre.flatMap (pieceB xs))) ∧ (∀ ad, A = some ad → v.ownBlock ≠ some ad.block)
  sl : Sl W A len cap (nats .u8 xs)
  box : Boxed W Bl 22 (.slice A len cap)
  bel : Below n₀ w0 W
theorem flushI_own (n₀ Bo Bl : Nat) (A : Option Addr) (len cap : Nat) (ob xs : List Nat) (w0 : World) (B : Nat) (hB : n₀ ≤ B) (hw : n₀ ≤ w0.heap.size) : OwnFrom B (FlushI n₀ Bo Bl A len cap ob xs w0) := fun s W W' row hs hg hr => by
  have hr' : ∀ r, row = some r → ∃ o : Obj, W.heap[r]? = some o ∧ o.isCells = false := fun r e => (hr r e).2
  refine ⟨?_, sl_own A len cap (nats .u8 xs) s W W' row hs.sl hg hr', boxed_own' Bl _ _ s W W' row hs.box hg hr', ?_⟩
  · have := holdsRow_own n₀ Bo 22 5 1 (fun pre => (ob ++ pre.flatMap (pieceB xs)).length) (fun pre => nats .u8 (ob ++ pre.flatMap (pieceB xs))) (fun (_ : List Nat) v => ∀ ad, A = some ad → v.ownBlock ≠ some ad.block)
    exact this s W W' row hs.out hg hr'
  · exact hs.bel.grown hg (Nat.le_trans hw hs.bel.size) (fun k e => Nat.le_trans hB (hr k e).1)

theorem ownBlock_cells {W : World} {base size n k : Nat} {e : TypeId} {v : Value} {xs : List Value} (h : W.ownsRow base e size v n xs) (hk : v.ownBlock = some k) : ∃ o : Obj, W.heap[k]? = some o ∧ o.isCells = true := by
  rcases h.2 with ⟨rfl, _⟩ | ⟨g, cap, cur, rfl, _, hg, _⟩
  · cases hk
  · have : g = k := by simpa [Value.ownBlock] using hk
    subst this
    exact ⟨_, hg, rfl⟩

/-- One piece: a byte, the piece, the store. -/
theorem flush_step {n₀ Bo Bl Bs Bn : Nat} {A : Option Addr} {len cap m x B : Nat} {ob xs : List Nat} {w0 W w1 w2 : World} {pre : List Nat} {v v1 v2 : Value} {byte L : Nat} {tmp : Obj} {u1 u2 : Value} {t2 : TypeId}
    (hL : (ob ++ pre.flatMap (pieceB xs)).length = L) (vB : Boxed W Bo 22 v) (hown : W.ownsRow n₀ 5 1 v L (nats .u8 (ob ++ pre.flatMap (pieceB xs)))) (hap : ∀ ad, A = some ad → v.ownBlock ≠ some ad.block)
    (hsl : Sl W A len cap (nats .u8 xs)) (hlen : 0 < len) (hbl : Boxed W Bl 22 (.slice A len cap)) (hbel : Below n₀ w0 W) (hn₀ : n₀ ≤ W.heap.size) (hBo : n₀ ≤ Bo) (hne : Bo ≠ Bl)
    (bs : Boxed W Bs 22 u1) (bn : Boxed W Bn t2 u2) (ht2 : t2 ≠ 5) (hBs : Bs ≠ Bo) (hBn : Bn ≠ Bo)
    (ho1 : w1.ownsRow n₀ 5 1 v1 (L + 1) (nats .u8 (ob ++ pre.flatMap (pieceB xs)) ++ [.int .u8 (byte : Int)])) (hb1 : Below n₀ (W.alloc tmp) w1) (hg1 : (W.alloc tmp).grownBy w1 v.ownBlock) (hor1 : v1.ownBlock = v.ownBlock ∨ v1.ownBlock = some (W.heap.size + 1))
    (ho2 : w2.ownsRow n₀ 5 1 v2 (L + 1 + m) (nats .u8 (ob ++ pre.flatMap (pieceB xs)) ++ (.int .u8 (byte : Int)) :: nats .u8 (pieceL xs x))) (hb2 : Below n₀ w1 w2) (hg2 : w1.grownBy w2 v1.ownBlock) (hor2 : v2.ownBlock = v1.ownBlock ∨ v2.ownBlock = some w1.heap.size)
    (hbyte : byte = (256 - (pieceL xs x).length) % 256) (hm : (pieceL xs x).length = m) :
    KeepsFrom B W (w2.setCell ⟨Bo, 0, none⟩ v2) ∧ KeepBox Bs Bn W (w2.setCell ⟨Bo, 0, none⟩ v2) ∧ FlushI n₀ Bo Bl A len cap ob xs w0 (pre ++ [x]) (w2.setCell ⟨Bo, 0, none⟩ v2) := by
  subst hL
  have hsz1 : W.heap.size + 1 ≤ w1.heap.size := by have := hb1.size; simpa using this
  have hsz2 := hb2.size
  have key : ∀ k, k < W.heap.size → some k ≠ v.ownBlock → w2.heap[k]? = W.heap[k]? := fun k hk hkv => by
    have e1 : w1.heap[k]? = (W.alloc tmp).heap[k]? := hg1.block k (by simp; omega) hkv
    have e2 : w2.heap[k]? = w1.heap[k]? := hg2.block k (by omega) (fun e => by
      rcases hor1 with h | h
      · exact hkv (e.trans h)
      · rw [h] at e
        simp at e
        omega)
    rw [e2, e1]
    exact Below.heap_alloc W tmp k hk
  have key2 : ∀ k, k < W.heap.size → some k ≠ v.ownBlock → k ≠ Bo → (w2.setCell ⟨Bo, 0, none⟩ v2).heap[k]? = W.heap[k]? := fun k hk hkv hko => (Below.heap_setCell w2 ⟨Bo, 0, none⟩ v2 k hko).trans (key k hk hkv)
  have vB2 : Boxed w2 Bo 22 v := (key Bo vB.lt (vB.not_row (by decide) hown)).trans vB
  obtain ⟨b, off, rfl, hbw, hcell⟩ := hsl.at_ hlen
  have hbv : some b ≠ v.ownBlock := fun e => hap _ rfl e.symm
  have hbBo : b ≠ Bo := fun e => by
    subst e
    have h1 := hcell 0 hlen
    have h2 := vB
    have hxl : xs.length = len := by have := hsl.len; rwa [nats_length] at this
    rw [nats_getD _ _ _ (by omega)] at h1
    rw [cell_of_row W b (off + 0) #[v] 22 (0, 0) h2] at h1
    rcases Nat.eq_zero_or_pos off with h0 | h0
    · subst h0
      simp at h1
      rcases (show W.ownsRow n₀ 5 1 v _ _ from hown).2 with ⟨hv, _⟩ | ⟨g, cap', cur, hv, _⟩ <;> (rw [hv] at h1; cases h1)
    · rw [Array.getElem?_eq_none (by simp; omega)] at h1
      cases h1
  refine ⟨⟨?_, ?_⟩, ⟨?_, ?_⟩, ⟨⟨v2, vB2.set v2, ?_, ?_⟩, ?_, ?_, ?_⟩⟩
  · have := (Below.setCell (Below.refl n₀ w2) (p := ⟨Bo, 0, none⟩) hBo v2).size
    omega
  · intro k o _ hk ho
    refine (key2 k (Array.getElem?_eq_some_iff.1 hk).1 (fun e => ?_) (fun e => ?_)).trans hk
    · obtain ⟨o', ho', hc'⟩ := ownBlock_cells hown e.symm
      rw [hk] at ho'; cases ho'; rw [hc'] at ho; cases ho
    · subst e
      rw [show W.heap[k]? = _ from vB] at hk; cases hk; cases ho
  · exact key2 Bs bs.lt (bs.not_row (by decide) hown) hBs
  · exact key2 Bn bn.lt (bn.not_row ht2 hown) hBn
  · have h1 := ho2.kept (grownBy_setCell' w2 Bo v2) (.inr (vB2.not_row (by decide) ho2).symm)
    rw [flat_snoc, ← List.append_assoc, nats_append, List.length_append]
    have h2 : nats .u8 (pieceB xs x) = (.int .u8 (byte : Int)) :: nats .u8 (pieceL xs x) := by rw [hbyte]; rfl
    have h3 : (pieceB xs x).length = 1 + m := by rw [← hm]; simp [pieceB]; omega
    rw [h2, h3, ← Nat.add_assoc]
    exact h1
  · intro ad had
    injection had with had
    subst had
    rcases hor2 with h | h <;> rw [h]
    · rcases hor1 with h' | h' <;> rw [h']
      · exact fun e => hbv e.symm
      · simp; omega
    · simp; omega
  · refine ⟨hsl.len, hsl.le, hsl.max, hsl.nil, fun ad had j u hu => ?_, hsl.one⟩
    injection had with had
    subst had
    have h1 := hsl.cells _ rfl j u hu
    rw [add_none] at h1 ⊢
    exact (World.cell?_of_block (key2 b hbw hbv hbBo)).trans h1
  · exact (key2 Bl hbl.lt (hbl.not_row (by decide) hown) hne.symm).trans hbl
  · exact (hbel.trans ((((Below.refl n₀ W).alloc hn₀ tmp).trans hb1).trans hb2)).setCell (p := ⟨Bo, 0, none⟩) hBo v2

set_option maxRecDepth 100000 in
set_option maxHeartbeats 4000000 in
theorem flush_in (F : Fence) (N : Nat) (h63 : F.fn 63) (h64 : F.fn 64) (h90 : F.fn 90) (hro : F.round = none) (hN : 5 ≤ N) (Bo Bl n₀ len cap : Nat) (A : Option Addr) (vo : Value) (ob xs : List Nat) (w : World)
    (vB : Boxed w Bo 22 vo) (hbl : Boxed w Bl 22 (.slice A len cap)) (hne : Bo ≠ Bl) (hn₀ : n₀ ≤ Bo) (hn₁ : n₀ ≤ Bl)
    (hown : w.ownsRow n₀ 5 1 vo ob.length (nats .u8 ob)) (hl : w.ownsRow n₀ 5 1 (.slice A len cap) len (nats .u8 xs)) (hap : ∀ ad, A = some ad → vo.ownBlock ≠ some ad.block)
    (hmax : len ≤ 1000000000000) (hob : ob.length ≤ 1000000000000) (chunkP : ∀ w, CallsIn F (N - 1) Try.prog 64 #[.slice A len cap, .int .i64 128] w fun e w' => e = .returned (.func (.func 90) #[] #[.pointer (some ⟨w.heap.size, 0, none⟩), .pointer (some ⟨w.heap.size + 1, 0, none⟩)]) ∧ w' = (w.alloc (.cells #[.slice A len cap] 22)).alloc (.cells #[.int .i64 128] 3)) :
    CallsIn F N Try.prog 63 #[.pointer (some ⟨Bl, 0, none⟩), .pointer (some ⟨Bo, 0, none⟩)] w fun e W' => (∃ v, e = .returned v) ∧ ∃ vo', Boxed W' Bo 22 vo' ∧ Boxed W' Bl 22 (.slice none 0 0) ∧
      W'.ownsRow n₀ 5 1 vo' (ob ++ runsB (chunks (xs.length + 1) xs)).length (nats .u8 (ob ++ runsB (chunks (xs.length + 1) xs))) ∧ Below n₀ w W' := by
  have h1 : 1 ≤ N := by omega
  obtain ⟨i0, hi, hz0, hz1, hz2⟩ := info_parts Try.info5
  have hsl : Sl w A len cap (nats .u8 xs) := by
    obtain ⟨A3, c3, hv, hs3⟩ := Sl.of_own hl (nats_one _ _)
    injection hv with e1 e2 e3
    subst e1 e3
    exact hs3
  have hxl : xs.length = len := by have := hsl.len; rwa [nats_length] at this
  have hA : ∃ g, 0 < len → A = some ⟨g, 0, none⟩ := by
    rcases hl.2 with ⟨hv, _⟩ | ⟨g, cap', cur, hv, _⟩
    · injection hv with e1 e2 e3
      exact ⟨0, fun h => by omega⟩
    · injection hv with e1 e2 e3
      exact ⟨g, fun _ => e1⟩
  obtain ⟨g, hA⟩ := hA
  have HA := Lib.hid hA
  have HvB := Lib.hid vB
  have Hbl := Lib.hid hbl
  have cBl := hbl.cell
  have hlt1 := vB.lt
  have hlt2 := hbl.lt
  have Hown := Lib.hid hown
  have Hsl := Lib.hid hsl
  have Hap := Lib.hid hap
  have Hxl := Lib.hid hxl
  have Hne := Lib.hid hne
  have HchunkP := Lib.hid chunkP
  clear hA vB hbl hown hl hsl hap hxl hne chunkP
  refine callsIn_of_wp_marks Try.func63 rfl h63 ?_ hro
  simp only [Try.ntmps63, List.size_toArray, List.length_cons, List.length_nil, Nat.reduceAdd, Nat.reduceSub, Array.replicate_succ, Array.replicate_zero, List.push_toArray, List.append_toArray, List.nil_append, List.cons_append]
  gi_wp2_with (gi_at_call 64; refine (HchunkP.out _).mono ?_; rintro e w' ⟨rfl, rfl⟩)
  obtain ⟨w1, hw1⟩ : ∃ w1, (w.alloc (.cells #[.slice A len cap] 22)).alloc (.cells #[.int .i64 128] 3) = w1 := ⟨_, rfl⟩
  have hb1 : Below w.heap.size w w1 := by rw [← hw1]; exact ((Below.refl _ w).alloc (Nat.le_refl _) _).alloc (by simp) _
  have hsz1 : w1.heap.size = w.heap.size + 2 := by rw [← hw1]; simp
  have bs1 : Boxed w1 w.heap.size 22 (.slice A len cap) := by rw [← hw1]; exact (Boxed.new w _ _).alloc _
  have bn1 : Boxed w1 (w.heap.size + 1) 3 (.int .i64 128) := by
    rw [← hw1]
    have := Boxed.new (w.alloc (.cells #[.slice A len cap] 22)) 3 (.int .i64 128)
    rwa [World.size_alloc] at this
  have I0 : FlushI n₀ Bo Bl A len cap ob xs w [] w1 := ⟨⟨vo, (hb1.block _ HvB.out.lt).trans HvB.out, by simpa using World.ownsRow.below Hown.out hb1, Hap.out⟩, Hsl.out.keep hb1, (hb1.block _ Hbl.out.lt).trans Hbl.out, hb1.mono (by omega)⟩
  rw [hw1]
  clear hw1
  refine wpIn_rangeFunc_ownG hro h1 (gf := 90) (lb := #[.pointer (some ⟨w.heap.size, 0, none⟩), .pointer (some ⟨w.heap.size + 1, 0, none⟩)]) rfl h90 (enters_of Try.func90 (by kernel_rfl) rfl)
    (chunk_stops F (N - 1) h90 hro (by omega) w.heap.size (w.heap.size + 1) g len cap A HA.out Hsl.out.le Hsl.out.max hmax _ _ w1 bs1 bn1) keepBox_t (keepBox_b (by omega) (by omega)) (Below.refl _ _) (fun _ => rfl)
    (fun pre W => FlushI n₀ Bo Bl A len cap ob xs w pre W ∧ (Boxed W w.heap.size 22 (.slice A len cap) ∧ Boxed W (w.heap.size + 1) 3 (.int .i64 128)))
    (fun _ _ _ => False)
    (OwnFrom.and (flushI_own n₀ Bo Bl A len cap ob xs w _ (by omega) (by omega)) (Own.from (fun s X Y row hs hg hr => ⟨boxed_own' _ _ _ s X Y row hs.1 hg hr, boxed_own' _ _ _ s X Y row hs.2 hg hr⟩) _))
    (fun _ _ _ _ _ hs _ _ => hs)
    ⟨I0, bs1, bn1⟩
    (fun x => { tmps := #[.pointer (some ⟨Bl, 0, none⟩), .pointer (some ⟨Bo, 0, none⟩), .slice (some ⟨g, 0 + 128 * x, none⟩) (pieceLen len x) (pieceLen len x), .slice A len cap, .func (.func 90) #[] #[.pointer (some ⟨w.heap.size, 0, none⟩), .pointer (some ⟨w.heap.size + 1, 0, none⟩)], .slice (some ⟨g, 0 + 128 * x, none⟩) (pieceLen len x) (pieceLen len x), undef, undef, undef, undef, undef, undef, undef, undef, undef], defers := [] }) ?assign ?body ?done ?stop
  case assign =>
    intro l x W K hK
    have hsem := Oper.semAt_some
    gi_wp2
    exact hK
  case body =>
    rintro l pre x W ⟨⟨⟨v, vB, hown, hap⟩, hsl, hbl, hbel⟩, bs, bn⟩ hlt
    have hsem := Oper.semAt_some
    have hlen : 0 < len := by omega
    have cB := vB.cell
    have fB := vB.frozen
    have hm : (pieceL xs x).length = pieceLen len x := by rw [pieceL_length, Hxl.out]
    have hm8 : pieceLen len x ≤ 128 := by unfold pieceLen; omega
    have hps : Sl W (some ⟨g, 128 * x, none⟩) (pieceLen len x) (pieceLen len x) (nats .u8 (pieceL xs x)) := by
      have h1 := HA.out hlen
      rw [h1] at hsl
      have h2 := sl_piece hsl x
      rwa [Nat.zero_add] at h2
    have hflat := flat_le xs pre
    have hn₂ : n₀ ≤ W.heap.size := by have := hbel.size; omega
    have hbig : (ob ++ pre.flatMap (pieceB xs)).length + 200 ≤ 10000000000000 := by
      rw [List.length_append]
      have := Hsl.out.le
      omega
    generalize hL : (ob ++ pre.flatMap (pieceB xs)).length = L at *
    have HL := Lib.hid hL
    clear hL
    generalize pieceLen len x = m at *
    have Hps := Lib.hid hps
    have Hm := Lib.hid hm
    have HvB := Lib.hid vB
    have Hown := Lib.hid hown
    have Hap := Lib.hid hap
    have Hsl := Lib.hid hsl
    have Hbl := Lib.hid hbl
    have Hbs := Lib.hid bs
    have Hbn := Lib.hid bn
    have Hbel := Lib.hid hbel
    clear hps hm vB hown hap hsl hbl bs bn hbel hflat
    gi_wp2_with (gi_at_builtin; refine wpListIn_append_sl rfl (.tmp 6) (.tmp 11) 22 rfl n₀ 5 i0 (.int .u8 0) 1 Try.underlying22 hi hz0 hz1 hz2 rfl _ _ _ rfl (Hown.out.alloc _) (some ⟨W.heap.size, 0, none⟩) 1 1 _ rfl (Sl.one_new W _ _ rfl) ?c1 ?c2 ?c3 ?_)
    case c1 => unfold maxLen; omega
    case c2 => omega
    case c3 => simp; omega
    intro v1 w2 ho1 hb2 hg1 hor1
    have hg0 : g < W.heap.size ∧ some g ≠ v.ownBlock := by
      have hA := HA.out hlen
      obtain ⟨b, off, hA2, hb, _⟩ := Hsl.out.at_ hlen
      rw [hA] at hA2
      injection hA2 with hA2
      injection hA2 with e1 e2
      subst e1
      exact ⟨hb, fun e => Hap.out _ hA e.symm⟩
    have hps2 : Sl w2 (some ⟨g, 128 * x, none⟩) m m (nats .u8 (pieceL xs x)) := by
      refine ⟨Hps.out.len, Hps.out.le, Hps.out.max, Hps.out.nil, fun ad had j u hu => ?_, Hps.out.one⟩
      injection had with had
      subst had
      have h1 := Hps.out.cells _ rfl j u hu
      rw [add_none] at h1 ⊢
      rw [← h1]
      exact World.cell?_of_block ((hg1.block g (by simp; omega) hg0.2).trans (Below.heap_alloc W _ g hg0.1))
    have hsz2 : W.heap.size + 1 ≤ w2.heap.size := by have := hb2.size; have := hg1.size; simp at this; omega
    gi_wp2_with (gi_at_builtin; refine wpListIn_append_sl rfl (.tmp 12) (.tmp 13) 22 rfl n₀ 5 i0 (.int .u8 0) 1 Try.underlying22 hi hz0 hz1 hz2 rfl v1 _ _ rfl ho1 (some ⟨g, 128 * x, none⟩) m m _ rfl hps2 ?d1 ?d2 ?d3 ?_)
    case d1 => unfold maxLen; omega
    case d2 => omega
    case d3 => omega
    intro v2 w3 ho2 hb3 hg2 hor2
    have ebyte : -(m : Int) % 256 = (((256 - m) % 256 : Nat) : Int) := by omega
    rw [ebyte] at ho1 ho2 hb2 hg1
    have hstep := flush_step (B := w1.heap.size) HL.out HvB.out Hown.out Hap.out Hsl.out hlen Hbl.out Hbel.out hn₂ hn₀ Hne.out Hbs.out Hbn.out (by decide) (by omega) (by omega) ho1 hb2 hg1 hor1 ho2 hb3 hg2 hor2 (by rw [Hm.out]) Hm.out
    have vB3 : Boxed w3 Bo 22 v := by
      have hlo := HvB.out.lt
      have hnr := HvB.out.not_row (by decide) Hown.out
      have e1 := hg1.block Bo (by simp; omega) hnr
      have e2 := hg2.block Bo (by omega) (fun e => by
        rcases hor1 with h | h
        · exact hnr (e.trans h)
        · rw [h] at e
          simp at e
          omega)
      exact (e2.trans (e1.trans (Below.heap_alloc W _ Bo hlo))).trans HvB.out
    have cB3 := vB3.cell
    have fB3 := vB3.frozen
    obtain ⟨A4, c4, rfl, s4⟩ := Sl.of_own ho2 (fun u hu => by
      rcases List.mem_append.1 hu with hu | hu
      · exact nats_one _ _ u hu
      · rcases List.mem_cons.1 hu with rfl | hu
        · rfl
        · exact nats_one _ _ u hu)
    have Hstep := Lib.hid hstep
    clear hstep s4 ho1 ho2 hb2 hb3 hg1 hg2 hor1 hor2 vB3 ebyte
    gi_wp2
    obtain ⟨s1, s2, s3⟩ := Hstep.out
    exact ⟨s1, s2, s3, s2.1.trans Hbs.out, s2.2.trans Hbn.out⟩
  case done =>
    rintro D ys W hD rfl ⟨⟨⟨v, vB, hown, hap⟩, hsl, hbl, hbel⟩, bs, bn⟩ hK
    have cBl2 := hbl.cell
    have fBl2 := hbl.frozen
    have HvB := Lib.hid vB
    have Hown := Lib.hid hown
    have HK := Lib.hid hK
    have Hbel := Lib.hid hbel
    have Hbl2 := Lib.hid hbl
    clear vB hown hap hsl hbl hbel bs bn hK
    gi_wp2
    have hK2 : (W.setCell ⟨Bl, 0, none⟩ (.slice none 0 0)).heap[D]? = some (.deferred (some [])) := (KeepsOthers.setCell W ⟨Bl, 0, none⟩ (.slice none 0 0)).same D _ HK.out rfl
    have vB2 : Boxed (W.setCell ⟨Bl, 0, none⟩ (.slice none 0 0)) Bo 22 v := (Below.heap_setCell W ⟨Bl, 0, none⟩ _ Bo Hne.out).trans HvB.out
    have bl2 := Hbl2.out.set (.slice none 0 0)
    have ho2 := Hown.out.kept (grownBy_setCell' W Bl (.slice none 0 0)) (.inr (Hbl2.out.not_row (by decide) Hown.out).symm)
    have hDB : Bo ≠ D ∧ Bl ≠ D := ⟨by omega, by omega⟩
    refine ⟨by simp, .inl ⟨_, _, rfl, run_takeDeferred hK2, ?_⟩⟩
    refine ⟨_, results_none rfl _ _ _, ⟨_, rfl⟩, v, (World.putObj_heap_other hDB.1).trans vB2, (World.putObj_heap_other hDB.2).trans bl2, ?_, ?_⟩
    · have h3 := ownsRow_putObj ho2 (.deferred none) hK2 rfl
      have e : (List.range ((len + 127) / 128)).flatMap (pieceB xs) = runsB (chunks (xs.length + 1) xs) := by rw [← Hxl.out]; exact pieces_all xs _ (by omega)
      rw [e] at h3
      exact h3
    · exact (Hbel.out.setCell (p := ⟨Bl, 0, none⟩) hn₁ _).trans (belowK_b (w := w) (by omega) _ D _ _ (by omega) hK2 rfl rfl)
  case stop =>
    rintro D c pre W _ _ h _
    exact h.elim

theorem flush_p (Bo Bl n₀ len cap : Nat) (A : Option Addr) (vo : Value) (ob xs : List Nat) (w : World)
    (vB : Boxed w Bo 22 vo) (hbl : Boxed w Bl 22 (.slice A len cap)) (hne : Bo ≠ Bl) (hn₀ : n₀ ≤ Bo) (hn₁ : n₀ ≤ Bl)
    (hown : w.ownsRow n₀ 5 1 vo ob.length (nats .u8 ob)) (hl : w.ownsRow n₀ 5 1 (.slice A len cap) len (nats .u8 xs)) (hap : ∀ ad, A = some ad → vo.ownBlock ≠ some ad.block)
    (hmax : len ≤ 1000000000000) (hob : ob.length ≤ 1000000000000) :
    Calls Try.prog 63 #[.pointer (some ⟨Bl, 0, none⟩), .pointer (some ⟨Bo, 0, none⟩)] w fun e W' => (∃ v, e = .returned v) ∧ ∃ vo', Boxed W' Bo 22 vo' ∧ Boxed W' Bl 22 (.slice none 0 0) ∧
      W'.ownsRow n₀ 5 1 vo' (ob ++ runsB (chunks (xs.length + 1) xs)).length (nats .u8 (ob ++ runsB (chunks (xs.length + 1) xs))) ∧ Below n₀ w W' :=
  (callsIn_wide (n := 5)).1 (flush_in Fence.wide 5 trivial trivial trivial rfl (Nat.le_refl _) Bo Bl n₀ len cap A vo ob xs w vB hbl hne hn₀ hn₁ hown hl hap hmax hob fun w => callsIn_wide.2 (chunk_p A len cap w))
end Go.Proofs.Ytcmmgehghlaofaa
