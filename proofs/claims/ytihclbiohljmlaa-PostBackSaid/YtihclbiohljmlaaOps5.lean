/- Loads, stores, copies, appends as operations of a region that draws its order. -/
import Derived.Test.YtihclbiohljmlaaRegionP
import Derived.Test.YtihclbiohljmlaaOps4
import Derived.Laws.CopyOwn
namespace Go.Proofs.Ytihclbiohljmlaa
open Go.RowKit
set_option linter.unusedVariables false
section
variable {P : Program} {o : Oper} {ρ : Operand → Value} {w : World} {K : Value → World → Prop}
theorem opk_copy_row {d s : Operand} {dT sT elem : TypeId} (h : o.op = .call { callee := .builtin .copy, args := #[d, s], argTypes := #[dT, sT] }) (hu : P.underlying dT = some (.slice elem)) (hsz : (P.info? elem).map (·.size) = some 1)
    {g off dLen dCap sLen sCap : Nat} {ad : Addr} {cur cs : List Value} {t : TypeId} (hd : ρ d = .slice (some ⟨g, off, none⟩) dLen dCap) (hs : ρ s = .slice (some ad) sLen sCap)
    (hg : w.heap[g]? = some (.cells cur.toArray t (0, 0))) (hn : cs.length = Nat.min sLen dLen) (hsrc : ∀ j v, cs[j]? = some v → w.cell? (ad.add j) = some v) (hfit : off + cs.length ≤ cur.length) (h1 : ∀ v ∈ cs, v.oneCell' = true)
    (hK : ∀ w', w'.heap[g]? = some (.cells (splice cur off cs).toArray t (0, 0)) → (∀ B w0, Below B w0 w → B ≤ g → Below B w0 w') → K (goInt cs.length) w') : OpK P o ρ w K := by
  have hrun := run_copy_row (P := P) w dT sT o.type elem g off dLen dCap ad sLen sCap cur.toArray t cs hu hsz hg hn hsrc (by simpa using hfit) h1
  refine opk_run (v := goInt cs.length) (w' := w.setRow g (cur.take off ++ (cs ++ cur.drop (off + cs.length))).toArray) ?_ (hK _ ?_ ?_)
  · unfold execOp
    simp only [h, resolve, invoke, builtin, Sem.run_bind, Sem.run_pure, Result.andThen_ok, List.map_toArray, List.map_cons, List.map_nil, hd, hs, hrun, List.append_assoc]
  · exact (show _ = _ by simpa [splice] using setRow_heap w g _ _ t _ hg)
  · intro B w0 hb hBg
    exact below_setRow hb hBg _

/-- append onto an own row. -/
theorem opk_append_own {t e : TypeId} {i : TypeInfo} {z : Value} {bytes base : Nat} (ht : P.underlying t = some (.slice e)) (hi : P.info? e = some i) (hz : i.zero = some z) (hsize : i.size = 1) (hby : i.bytes = bytes) (hzs : z.cells.size = 1)
    {s x : Operand} (h : o.op = .call { callee := .builtin .append, args := #[s, x], argTypes := #[t, t] })
    {v : Value} {k : Nat} {xs : List Value} (hs : ρ s = v) (hown : w.ownsRow base e 1 v k xs) {A : Option Addr} {n c : Nat} {news : List Value} (hx : ρ x = .slice A n c) (hsl : Sl w A n c news)
    (h63 : k + n ≤ maxLen) (hbytes : (k + n) * bytes ≤ 140737488355328) (hbase : base ≤ w.heap.size)
    (hK : ∀ v' w', Below base w w' → w'.ownsRow base e 1 v' (k + n) (xs ++ news) → w.grownBy w' v.ownBlock → (v'.ownBlock = v.ownBlock ∨ v'.ownBlock = some w.heap.size) → K v' w') : OpK P o ρ w K := by
  obtain ⟨v', w', hr, ho, hg, hv⟩ := run_append_sl (P := P) w base t o.type e i z bytes ht hi hz hsize hby hzs v k xs hown A n c news hsl h63 hbytes hbase
  refine opk_run (v := v') (w' := w') ?_ (hK _ _ (below_of_grown hown hg hbase) ho hg hv)
  unfold execOp
  simp only [h, resolve, invoke, builtin, Sem.run_bind, Sem.run_pure, Result.andThen_ok, List.map_toArray, List.map_cons, List.map_nil, hs, hx, hr]
end

theorem opk_load_slice {o : Oper} {ρ : Operand → Value} {w : World} {K : Value → World → Prop} {x : Operand} {ad : Addr} {v : Value} (h : o.op = .load 22 x) (hx : ρ x = .pointer (some ad)) (hc : w.cell? ad = some v) (hK : K v w) : OpK Try.prog o ρ w K :=
  opk_run (by simp [execOp, h, hx, hc, go_sem]) hK
theorem opk_skip {P : Program} {o : Oper} {ρ : Operand → Value} {w : World} {K : Value → World → Prop} {w' : World} (h : (execOp ρ o).run P w = .ok .skip w') (hK : K undef w') : OpK P o ρ w K := by
  unfold OpK; rw [h]; exact hK
theorem opk_store_slice {o : Oper} {ρ : Operand → Value} {w : World} {K : Value → World → Prop} {x y : Operand} {ad : Addr} {A : Option Addr} {n c : Nat} {u : Value} (h : o.op = .store 22 x y) (hx : ρ x = .pointer (some ad)) (hy : ρ y = .slice A n c) (hc : w.cell? ad = some u) (hf : w.frozen? ad = false) (hK : K undef (w.setCell ad (.slice A n c))) : OpK Try.prog o ρ w K :=
  opk_skip (by simp [execOp, h, hx, hy, hc, hf, go_sem]) hK
theorem opk_byte {o : Oper} {ρ : Operand → Value} {w : World} {K : Value → World → Prop} {x : Operand} {a : Int} (h : o.op = .convert 3 5 x) (hx : ρ x = .int .i64 a) (hK : K (.int .u8 (a % 256)) w) : OpK Try.prog o ρ w K :=
  opk_run (by simp [execOp, h, hx, go_sem]; exact IntKind.wrap_u8 _) hK
theorem opk_build2 {o : Oper} {ρ : Operand → Value} {w : World} {K : Value → World → Prop} {x y : Operand} {a b : Int} (h : o.op = .buildSlice 22 2 #[(0, x), (1, y)]) (hx : ρ x = .int .u8 a) (hy : ρ y = .int .u8 b) (hK : K (.slice (some ⟨w.heap.size, 0, none⟩) 2 2) (w.alloc (.cells #[.int .u8 a, .int .u8 b] 5))) : OpK Try.prog o ρ w K :=
  opk_run (by simp [execOp, h, hx, hy, go_sem]; trace_state) hK
theorem opk_indexAddr {o : Oper} {ρ : Operand → Value} {w : World} {K : Value → World → Prop} {x y : Operand} {ad : Addr} {n c i : Nat} (h : o.op = .indexAddr 22 x y) (hx : ρ x = .slice (some ad) n c) (hy : ρ y = .int .i64 (i : Int)) (hi : i < n) (hK : K (.pointer (some (ad.add i))) w) : OpK Try.prog o ρ w K :=
  opk_run (by simp [execOp, h, hx, hy, hi, go_sem]; trace_state) hK
theorem opk_load_u8 {o : Oper} {ρ : Operand → Value} {w : World} {K : Value → World → Prop} {x : Operand} {ad : Addr} {v : Value} (h : o.op = .load 5 x) (hx : ρ x = .pointer (some ad)) (hc : w.cell? ad = some v) (hK : K v w) : OpK Try.prog o ρ w K :=
  opk_run (by simp [execOp, h, hx, hc, go_sem]) hK
section
variable {P : Program} {o : Oper} {ρ : Operand → Value} {w : World} {K : Value → World → Prop}
theorem opk_add_i64 {t ty : TypeId} {x y : Operand} {m n : Int} (h : o.op = .binOp .add t x y ty) (hx : ρ x = .int .i64 m) (hy : ρ y = .int .i64 n) (hb : -9223372036854775808 ≤ m + n ∧ m + n ≤ 9223372036854775807) (hK : K (.int .i64 (m + n)) w) : OpK P o ρ w K :=
  opk_run (by simp [execOp, h, hx, hy, go_sem, IntWalk.i64_in _ hb]) hK
theorem opk_sub_i64 {t ty : TypeId} {x y : Operand} {m n : Int} (h : o.op = .binOp .sub t x y ty) (hx : ρ x = .int .i64 m) (hy : ρ y = .int .i64 n) (hb : -9223372036854775808 ≤ m - n ∧ m - n ≤ 9223372036854775807) (hK : K (.int .i64 (m - n)) w) : OpK P o ρ w K :=
  opk_run (by simp [execOp, h, hx, hy, go_sem, IntWalk.i64_in _ hb]) hK
end
theorem run_slice_lohi {P : Program} {w : World} {t e : TypeId} {i : TypeInfo} (ht : P.underlying t = some (.slice e)) (hi : P.info? e = some i) (hsize : i.size = 1) (A : Option Addr) (n c lo hi' : Nat) (hlo : lo ≤ hi') (hhi : hi' ≤ n) (hn : n ≤ c) (hc : c ≤ maxLen) :
    (Instr.slice t (.slice A n c) (some (.int .i64 (lo : Int))) (some (.int .i64 (hi' : Int))) none).run P w = .ok (.slice (dropA A c lo) (hi' - lo) (c - lo)) w := by
  have h1 : hi' ≤ c := by omega
  simp [Instr.slice, run_underlying ht, Instr.sliceBounds, Instr.sliceBound, asIntOf, h1, hlo, sizeOf, typeInfo, hi, hsize, dropA]
section
variable {P : Program} {o : Oper} {ρ : Operand → Value} {w : World} {K : Value → World → Prop}
theorem opk_slice_lohi {t e : TypeId} {i : TypeInfo} {x y z : Operand} (ht : P.underlying t = some (.slice e)) (hi : P.info? e = some i) (hsize : i.size = 1) (h : o.op = .slice t x (some y) (some z) none)
    {A : Option Addr} {n c lo hi' : Nat} {xs : List Value} (hx : ρ x = .slice A n c) (hs : Sl w A n c xs) (hy : ρ y = .int .i64 (lo : Int)) (hz : ρ z = .int .i64 (hi' : Int)) (h1 : lo ≤ hi') (h2 : hi' ≤ n) (hK : K (.slice (dropA A c lo) (hi' - lo) (c - lo)) w) : OpK P o ρ w K :=
  opk_run (by simp [execOp, h, hx, hy, hz, Instr.sliceAt, run_underlying ht, run_slice_lohi ht hi hsize A n c lo hi' h1 h2 hs.le hs.max]) hK
end
theorem Sl.cut {w : World} {A : Option Addr} {n c : Nat} {xs : List Value} (h : Sl w A n c xs) (lo hi : Nat) (h1 : lo ≤ hi) (h2 : hi ≤ n) : Sl w (dropA A c lo) (hi - lo) (c - lo) ((xs.drop lo).take (hi - lo)) :=
  (h.drop lo (by omega)).take (hi - lo) (by omega)
end Go.Proofs.Ytihclbiohljmlaa
