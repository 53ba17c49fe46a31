/- pb.last: what it answers. -/
import Derived.Test.YtihclbiohljmlaaPbBack
namespace Go.Proofs.Ytihclbiohljmlaa
open Go.RowKit Go.Shelf
set_option linter.unusedVariables false

section
variable {F : Fence} {N : Nat} {P : Program} {w : World} {ops : Array Oper} {rest : List Oper} {o : Oper} {a : Act} {Q : Exit → Act → World → Prop}
theorem wpListIn_store_row (hgd : o.guard = none) (ty : TypeId) (x y : Operand) (ho : o.op = .store ty x y)
    (g : Nat) (cells : Array Value) (hx : a.eval x = .pointer (some ⟨g, 0, none⟩)) (hy : a.eval y = .agg cells)
    (t : TypeId) (old : Array Value) (hg : w.heap[g]? = some (.cells old t (0, 0))) (hi : (P.info? ty).map (·.size) = some cells.size)
    (hold : old.size = cells.size) (h1 : cells.all (·.oneCell') = true)
    (h : wpListIn F N P ops Q rest (a.put o.dst undef) (w.setRow g cells)) : wpListIn F N P ops Q (o :: rest) a w := by
  refine wpListIn_plain hgd fun K hK' => ?_
  unfold Oper.wpIn
  refine ⟨?_, ?_⟩
  · simp [Oper.about, ho]
  · rw [Oper.semAt_plain F _ _ (by rw [ho]; intro c hc'; cases hc')]
    simp only [execOp, ho, hx, hy, Instr.storeAt, Instr.sureAddr, Sem.run_bind, Sem.run_pure, Result.andThen_ok, run_storeVar_row w g t ty old cells hg hi hold h1]
    exact hK' _ _ h
theorem wpListIn_load_row (hgd : o.guard = none) (ty : TypeId) (x : Operand) (ho : o.op = .load ty x)
    (g : Nat) (hx : a.eval x = .pointer (some ⟨g, 0, none⟩)) (t : TypeId) (cs : Array Value) (fr : Nat × Nat) (d : TypeDesc) (hg : w.heap[g]? = some (.cells cs t fr))
    (hu : P.underlying ty = some d) (hd : (match d with | .struct _ | .array _ _ => true | _ => false) = true) (hi : (P.info? ty).map (·.size) = some cs.size)
    (h : wpListIn F N P ops Q rest (a.put o.dst (.agg cs)) w) : wpListIn F N P ops Q (o :: rest) a w := by
  refine wpListIn_plain hgd fun K hK' => ?_
  unfold Oper.wpIn
  refine ⟨?_, ?_⟩
  · simp [Oper.about, ho]
  · rw [Oper.semAt_plain F _ _ (by rw [ho]; intro c hc'; cases hc')]
    simp only [execOp, ho, hx, Instr.loadAt, Instr.sureAddr, Sem.run_bind, Sem.run_pure, Result.andThen_ok, run_loadVar_row w g t ty cs fr d hg hu hd hi]
    exact hK' _ _ h
end

/-- Is a field of a number and a wire? -/
def isF (num : Int) (wire : Nat) (p : FA) : Bool := decide ((p.f.num : Int) = num ∧ p.f.wire = wire)
def lastA (ps : List FA) (num : Int) (wire : Nat) : Option FA := ps.reverse.find? (isF num wire)
theorem lastA_f (ps : List FA) (num : Int) (wire : Nat) : (lastA ps num wire).map FA.f = lastF (ps.map FA.f) num wire := by
  unfold lastA lastF
  rw [← List.map_reverse, List.find?_map]
  rfl
theorem lastA_mem {ps : List FA} {num : Int} {wire : Nat} {p : FA} (h : lastA ps num wire = some p) : p ∈ ps ∧ isF num wire p = true := by
  unfold lastA at h
  exact ⟨by simpa using List.mem_of_find?_eq_some h, List.find?_some h⟩
theorem find_stop {α : Type} (p : α → Bool) (l : List α) (k : Nat) (pre : List α) (x : α) (h : l.take k = pre ++ [x]) (hno : ∀ y ∈ pre, p y = false) (hx : p x = true) : l.find? p = some x := by
  rw [← List.take_append_drop k l, h, List.append_assoc, List.find?_append]
  have : pre.find? p = none := by
    rw [List.find?_eq_none]
    intro y hy
    simp [hno y hy]
  rw [this]
  simp [hx]
theorem find_none {α : Type} (p : α → Bool) (l : List α) (hno : ∀ y ∈ l, p y = false) : l.find? p = none := by
  rw [List.find?_eq_none]
  intro y hy
  simp [hno y hy]

/-- The value of the field that was found. -/
def lastV (r : Option FA) : Value := match r with | some p => fldV p.f p.A p.c | none => fz

theorem block_own {β : Type} (B : Nat) (o : Obj) (ho : o.isCells = true) : Own (fun (_ : β) (W : World) => W.heap[B]? = some o) := fun s X Y row hs hg hr =>
  (hg.block B (Array.getElem?_eq_some_iff.1 hs).1 (fun e => by obtain ⟨o', ho', hc⟩ := hr B e.symm; rw [show X.heap[B]? = _ from hs] at ho'; cases ho'; rw [ho] at hc; cases hc)).trans hs

theorem keepsFrom_two {B g h : Nat} {W : World} {cs : Array Value} {v : Value} (hg : g < B) (hh : h < B) : KeepsFrom B W ((W.setRow g cs).setCell ⟨h, 0, none⟩ v) :=
  ⟨by simp, fun k o hk h0 ho => by rw [heap_setCell_other _ _ _ _ (by simp; omega), heap_setRow_other _ _ _ _ (by omega)]; exact h0⟩

/-- Two results, a struct and a bool, each in a cell of its own. -/
theorem results_cell_bool {P : Program} {fn : Func} {p q : Tmp} {ty tb : TypeId} (h : fn.results = #[.cell p ty, .cell q tb]) (tmps : Array Value) (w : World) (g g2 : Nat) (t : TypeId) (cs : Array Value) (fr : Nat × Nat) (d : TypeDesc) (v : Bool)
    (hp : tmps.getD p undef = .pointer (some ⟨g, 0, none⟩)) (hq : tmps.getD q undef = .pointer (some ⟨g2, 0, none⟩)) (hg : w.heap[g]? = some (.cells cs t fr))
    (hu : P.underlying ty = some d) (hd : (match d with | .struct _ | .array _ _ => true | _ => false) = true) (hi : (P.info? ty).map (·.size) = some cs.size)
    (hb : (loadVar tb ⟨g2, 0, none⟩).run P w = .ok (.bool v) w) :
    (results fn tmps).run P w = .ok (.tuple #[.agg cs, .bool v]) w := by
  have hp' : tmps[p]?.getD undef = .pointer (some ⟨g, 0, none⟩) := by simpa using hp
  have hq' : tmps[q]?.getD undef = .pointer (some ⟨g2, 0, none⟩) := by simpa using hq
  simp [results, h, hp', hq', asAddr, run_loadVar_row w g t ty cs fr d hg hu hd hi, hb]
theorem load_bool (w : World) (g : Nat) (v : Bool) (t : TypeId) (fr : Nat × Nat) (hg : w.heap[g]? = some (.cells #[.bool v] t fr)) : (loadVar 4 ⟨g, 0, none⟩).run Try.prog w = .ok (.bool v) w := by
  have hc : w.cell? ⟨g, 0, none⟩ = some (.bool v) := by rw [cell_of_row _ _ _ _ _ _ hg]; rfl
  simp [loadVar, isAgg, run_underlying Try.underlying4, hc, go_sem]

theorem fld_size : (Try.prog.info? 57).map (·.size) = some 5 := by kernel_rfl
theorem fld_one (a b u e : Int) (A : Option Addr) (n c : Nat) : (#[Value.int .i64 a, .int .i64 b, .int .u64 u, .slice A n c, .int .i64 e]).all (·.oneCell') = true := by simp [Value.oneCell']
/-- What holds between two rounds. -/
def LastI (w1 : World) (num : Int) (wire : Nat) (pre : List (Nat × FA)) (W : World) : Prop := (∀ y ∈ pre, isF num wire y.2 = false) ∧ Below w1.heap.size w1 W
def LastX (w : World) (num : Int) (wire : Nat) (c : Code) (pre : List (Nat × FA)) (W : World) : Prop :=
  c = .ret ∧ ∃ (pre' : List (Nat × FA)) (x : Nat × FA), pre = pre' ++ [x] ∧ (∀ y ∈ pre', isF num wire y.2 = false) ∧ isF num wire x.2 = true ∧
    (W.heap[w.heap.size + 2]? = some (.cells x.2.cells.toArray 57 (0, 0)) ∧ W.heap[w.heap.size + 3]? = some (.cells #[.bool true] 4 (0, 0))) ∧ Below w.heap.size w W

set_option maxRecDepth 100000 in
set_option maxHeartbeats 4000000 in
theorem last_in (F : Fence) (N : Nat) (h35 : F.fn 40) (h69 : F.fn 58) (h93 : F.fn 60) (hro : F.round = none) (hN : 5 ≤ N) (A : Option Addr) (n c : Nat) (ps : List FA) (num : Int) (wire : Nat) (w : World) (hs : Flds w A n c ps) (hn : n ≤ 100000000)
    (backP : ∀ w, CallsIn F (N - 1) Try.prog 58 #[.slice A n c] w fun e w' => e = .returned (.func (.func 60) #[] #[.pointer (some ⟨w.heap.size, 0, none⟩)]) ∧ w' = w.alloc (.cells #[.slice A n c] 24)) :
    CallsIn F N Try.prog 40 #[.slice A n c, .int .i64 num, .int .i64 (wire : Int)] w fun e W' => e = .returned (.tuple #[lastV (lastA ps num wire), .bool (lastA ps num wire).isSome]) ∧ Below w.heap.size w W' := by
  have h1 : 1 ≤ N := by omega
  have Hs := Lib.hid hs
  have HbackP := Lib.hid backP
  clear hs backP
  refine callsIn_of_wp_marks Try.func40 rfl h35 ?_ hro
  simp only [Try.ntmps40, List.size_toArray, List.length_cons, List.length_nil, Nat.reduceAdd, Nat.reduceSub, Array.replicate_succ, Array.replicate_zero, List.push_toArray, List.append_toArray, List.nil_append, List.cons_append]
  gi_wp2_with (gi_at_call 58; refine (HbackP.out _).mono ?_; rintro e w' ⟨rfl, rfl⟩)
  obtain ⟨w1, hw1⟩ : ∃ w1, (((((w.alloc (.cells #[.int .i64 num] 3)).alloc (.cells #[.int .i64 (wire : Int)] 3)).alloc (.cells #[.int .i64 0, .int .i64 0, .int .u64 0, .slice none 0 0, .int .i64 0] 57)).alloc (.cells #[.bool false] 4)).alloc (.cells #[.slice A n c] 24)) = w1 := ⟨_, rfl⟩
  have hb1 : Below w.heap.size w w1 := by rw [← hw1]; exact (((((Below.refl _ w).alloc (Nat.le_refl _) _).alloc (by simp) _).alloc (by simp <;> omega) _).alloc (by simp <;> omega) _).alloc (by simp <;> omega) _
  have hsz1 : w1.heap.size = w.heap.size + 5 := by rw [← hw1]; simp
  have q0 : w1.heap[w.heap.size]? = some (.cells #[.int .i64 num] 3 (0, 0)) := by
    rw [← hw1, heap_alloc_old _ _ _ (by simp <;> omega), heap_alloc_old _ _ _ (by simp <;> omega), heap_alloc_old _ _ _ (by simp <;> omega), heap_alloc_old _ _ _ (by simp)]; exact heap_alloc_new _ _
  have q1 : w1.heap[w.heap.size + 1]? = some (.cells #[.int .i64 (wire : Int)] 3 (0, 0)) := by
    rw [← hw1, heap_alloc_old _ _ _ (by simp <;> omega), heap_alloc_old _ _ _ (by simp <;> omega), heap_alloc_old _ _ _ (by simp)]; exact heap_alloc2_new _ _ _
  have q2 : w1.heap[w.heap.size + 2]? = some (.cells #[.int .i64 0, .int .i64 0, .int .u64 0, .slice none 0 0, .int .i64 0] 57 (0, 0)) := by
    rw [← hw1, heap_alloc_old _ _ _ (by simp <;> omega), heap_alloc_old _ _ _ (by simp)]
    have := heap_alloc2_new (w.alloc (.cells #[.int .i64 num] 3)) (.cells #[.int .i64 (wire : Int)] 3) (.cells #[.int .i64 0, .int .i64 0, .int .u64 0, .slice none 0 0, .int .i64 0] 57)
    rwa [World.size_alloc] at this
  have q3 : w1.heap[w.heap.size + 3]? = some (.cells #[.bool false] 4 (0, 0)) := by
    rw [← hw1, heap_alloc_old _ _ _ (by simp)]
    have := heap_alloc2_new ((w.alloc (.cells #[.int .i64 num] 3)).alloc (.cells #[.int .i64 (wire : Int)] 3)) (.cells #[.int .i64 0, .int .i64 0, .int .u64 0, .slice none 0 0, .int .i64 0] 57) (.cells #[.bool false] 4)
    rwa [World.size_alloc, World.size_alloc] at this
  have q4 : w1.cell? ⟨w.heap.size + 4, 0, none⟩ = some (.slice A n c) := by
    have : w1.heap[w.heap.size + 4]? = some (.cells #[.slice A n c] 24 (0, 0)) := by
      rw [← hw1]
      have := heap_alloc2_new (((w.alloc (.cells #[.int .i64 num] 3)).alloc (.cells #[.int .i64 (wire : Int)] 3)).alloc (.cells #[.int .i64 0, .int .i64 0, .int .u64 0, .slice none 0 0, .int .i64 0] 57)) (.cells #[.bool false] 4) (.cells #[.slice A n c] 24)
      rwa [World.size_alloc, World.size_alloc, World.size_alloc] at this
    rw [cell_of_row _ _ _ _ _ _ this]; rfl
  rw [hw1]
  clear hw1
  have Q0 := Lib.hid q0
  have Q1 := Lib.hid q1
  have Q2 := Lib.hid q2
  have Q3 := Lib.hid q3
  have Hsz := Lib.hid hsz1
  have hsz2 : w.heap.size + 4 < w1.heap.size := by omega
  clear q0 q1 q2 q3 hsz1
  refine wpIn_rangeFunc_ownH hro h1 (gf := 60) (lb := #[.pointer (some ⟨w.heap.size + 1 + 1 + 1 + 1, 0, none⟩)]) rfl h93 (enters_of Try.func60 (by kernel_rfl) rfl)
    (back_stops F (N - 1) h93 hro (by omega) (w.heap.size + 1 + 1 + 1 + 1) w1.heap.size n c A ps hn w1 (fun ad hA => Nat.lt_of_lt_of_le (Hs.out.sl.blk ad hA).2 hb1.size) (by omega) (Nat.le_refl _) q4 (Hs.out.sl.keep hb1) Hs.out.hl) belowK_t (belowK_b (Nat.le_refl _)) (Below.refl _ _) (fun _ => rfl)
    (LastI w1 num wire)
    (LastX w num wire)
    (OwnFrom.and (ownFrom_pure _ _) (ownFrom_below (Nat.le_refl _) (Nat.le_refl _)))
    (fun cd s W W' row ⟨hc, pre', x, h1, h2, h3, ⟨h4, h5⟩, h6⟩ hg hr => ⟨hc, pre', x, h1, h2, h3, ⟨block_own (β := Unit) _ _ rfl () W W' row h4 hg (fun r e => (hr r e).2), block_own (β := Unit) _ _ rfl () W W' row h5 hg (fun r e => (hr r e).2)⟩, h6.grown hg h6.size (fun k e => Nat.le_trans hb1.size (hr k e).1)⟩)
    ⟨(fun y hy => by cases hy), Below.refl _ _⟩
    (fun x a' W => ∃ Bx, w1.heap.size ≤ Bx ∧ W.heap[Bx]? = some (.cells x.2.cells.toArray 57 (0, 0)) ∧ a' = { tmps := #[.slice A n c, .int .i64 num, .int .i64 (wire : Int), undef, .pointer (some ⟨w.heap.size, 0, none⟩), .pointer (some ⟨w.heap.size + 1, 0, none⟩), .pointer (some ⟨w.heap.size + 1 + 1, 0, none⟩), .pointer (some ⟨w.heap.size + 1 + 1 + 1, 0, none⟩), undef, .pointer (some ⟨Bx, 0, none⟩), .slice A n c, .func (.func 60) #[] #[.pointer (some ⟨w.heap.size + 1 + 1 + 1 + 1, 0, none⟩)], .int .i64 (x.1 : Int), fldV x.2.f x.2.A x.2.c, undef, undef, undef, undef, undef, undef, undef, undef, undef, undef, undef, undef], defers := [] })
    (fun x a' _ X Y row ⟨Bx, h1, h2, h3⟩ hg hr => ⟨Bx, h1, block_own (β := Unit) _ _ rfl () X Y row h2 hg (fun r e => (hr r e).2), h3⟩)
    ?assign ?body ?done ?stop
  case assign =>
    rintro l pre ⟨j, ⟨⟨fnum, fwire, fu, fb, fat⟩, fA, fc⟩⟩ W K ⟨hno, hB1⟩ hK
    have hsem := Oper.semAt_some
    unfold fldV at hK ⊢
    dsimp only at hK ⊢
    have HK := Lib.hid hK
    clear hK
    gi_wp2
    exact HK.out _ _ ((KeepsOthers.alloc _ _).from _) ((Below.refl _ W).alloc hB1.size _) ⟨hno, hB1.alloc hB1.size _⟩ ⟨W.heap.size, hB1.size, World.alloc_heap_new W _, rfl⟩
  case body =>
    rintro l pre ⟨j, ⟨⟨fnum, fwire, fu, fb, fat⟩, fA, fc⟩⟩ a' W hl ⟨r, hr⟩ ⟨hno, hB1⟩ ⟨Bx, hBx, bX, rfl⟩ hlt
    have hsem := Oper.semAt_some
    have cX0 : W.cell? ⟨Bx, 0, none⟩ = some (.int .i64 (fnum : Int)) := by rw [cell_of_row _ _ _ _ _ _ bX]; rfl
    have cX1 : W.cell? ⟨Bx, 1, none⟩ = some (.int .i64 (fwire : Int)) := by rw [cell_of_row _ _ _ _ _ _ bX]; rfl
    have p0 := (hB1.block _ (by omega)).trans Q0.out
    have p1 := (hB1.block _ (by omega)).trans Q1.out
    have p2 := (hB1.block _ (by omega)).trans Q2.out
    have p3 := (hB1.block _ (by omega)).trans Q3.out
    have c0 : W.cell? ⟨w.heap.size, 0, none⟩ = some (.int .i64 num) := by rw [cell_of_row _ _ _ _ _ _ p0]; rfl
    have c1 : W.cell? ⟨w.heap.size + 1, 0, none⟩ = some (.int .i64 (wire : Int)) := by rw [cell_of_row _ _ _ _ _ _ p1]; rfl
    have P2 := Lib.hid p2
    have P3 := Lib.hid p3
    have BX := Lib.hid bX
    have Hr := Lib.hid hr
    have Hno := Lib.hid hno
    have HB1 := Lib.hid hB1
    clear p0 p1 p2 p3 bX hr hno hB1
    unfold fldV
    dsimp only
    by_cases hf : isF num wire ⟨⟨fnum, fwire, fu, fb, fat⟩, fA, fc⟩ = true
    · have hf2 := of_decide_eq_true hf
      obtain ⟨e1, e2⟩ := hf2
      simp only at e1 e2
      subst e1 e2
      have c3 : ∀ v : Array Value, (W.setRow (w.heap.size + 1 + 1) v).cell? ⟨w.heap.size + 1 + 1 + 1, 0, none⟩ = some (.bool false) := fun v => by
        rw [cell_of_row _ _ _ _ _ _ ((heap_setRow_other _ _ _ _ (by omega)).trans P3.out)]; rfl
      have f3 : ∀ v : Array Value, (W.setRow (w.heap.size + 1 + 1) v).frozen? ⟨w.heap.size + 1 + 1 + 1, 0, none⟩ = false := fun v => frozen_of_row _ _ _ _ _ ((heap_setRow_other _ _ _ _ (by omega)).trans P3.out)
      have Hf := Lib.hid hf
      clear hf
      gi_wp2_with (first
        | (refine wpListIn_load_row rfl 57 (.tmp 9) rfl Bx rfl 57 _ (0, 0) _ BX.out Try.underlying57 rfl (by kernel_rfl) ?_)
        | (refine wpListIn_store_row rfl 57 (.tmp 6) (.tmp 24) rfl (w.heap.size + 1 + 1) #[.int .i64 (fnum : Int), .int .i64 (fwire : Int), .int .u64 (fu : Int), .slice fA fb.length fc, .int .i64 (fat : Int)] rfl rfl 57 _ P2.out fld_size rfl (fld_one _ _ _ _ _ _ _) ?_))
      refine ⟨keepsFrom_two (by omega) (by omega), rfl, pre, _, rfl, Hno.out, Hf.out, ⟨?_, ?_⟩, ?_⟩
      · exact (heap_setCell_other _ _ _ _ (by simp)).trans (setRow_heap _ _ _ _ _ _ P2.out)
      · exact heap_setCell_same _ _ _ _ _ _ ((heap_setRow_other _ _ _ _ (by omega)).trans P3.out)
      · exact (Below.setRow' (hb1.trans (HB1.out.mono hb1.size)) (by omega) _).setCell (p := ⟨w.heap.size + 1 + 1 + 1, 0, none⟩) (by simp; omega) _
    · have hf2 : isF num wire ⟨⟨fnum, fwire, fu, fb, fat⟩, fA, fc⟩ = false := by simpa using hf
      have hf3 := of_decide_eq_false hf2
      simp only at hf3
      have hI : LastI w1 num wire (pre ++ [(j, ⟨⟨fnum, fwire, fu, fb, fat⟩, fA, fc⟩)]) W := ⟨fun y hy => by
        rcases List.mem_append.1 hy with hy | hy
        · exact Hno.out y hy
        · rw [List.mem_singleton] at hy; subst hy; exact hf2, HB1.out⟩
      have HI := Lib.hid hI
      clear hf hf2 hI
      by_cases hn1 : (fnum : Int) = num
      · have hw : ¬ fwire = wire := fun h => hf3 ⟨hn1, h⟩
        subst hn1
        have e2 : ((fwire : Int) == (wire : Int)) = false := beq_eq_false_iff_ne.2 (by omega)
        have e3 : (fwire == wire) = false := beq_eq_false_iff_ne.2 hw
        clear hf3 hw
        gi_wp2
        exact ⟨KeepsFrom.refl _ _, Below.refl _ _, HI.out⟩
      · have e1 : ((fnum : Int) == num) = false := beq_eq_false_iff_ne.2 hn1
        clear hf3
        gi_wp2
        exact ⟨KeepsFrom.refl _ _, Below.refl _ _, HI.out⟩
  case done =>
    rintro D ys W hD rfl ⟨hno, hB1⟩ hK
    have p2 := (hB1.block _ (by omega)).trans Q2.out
    have p3 := (hB1.block _ (by omega)).trans Q3.out
    have P2 := Lib.hid p2
    have P3 := Lib.hid p3
    have Hno := Lib.hid hno
    have HB1 := Lib.hid hB1
    have HK := Lib.hid hK
    clear p2 p3 hno hB1 hK
    have c3 : ∀ v : Array Value, (W.setRow (w.heap.size + 1 + 1) v).cell? ⟨w.heap.size + 1 + 1 + 1, 0, none⟩ = some (.bool false) := fun v => by
      rw [cell_of_row _ _ _ _ _ _ ((heap_setRow_other _ _ _ _ (by omega)).trans P3.out)]; rfl
    have f3 : ∀ v : Array Value, (W.setRow (w.heap.size + 1 + 1) v).frozen? ⟨w.heap.size + 1 + 1 + 1, 0, none⟩ = false := fun v => frozen_of_row _ _ _ _ _ ((heap_setRow_other _ _ _ _ (by omega)).trans P3.out)
    gi_wp2_with (refine wpListIn_store_row rfl 57 (.tmp 6) (.tmp 25) rfl (w.heap.size + 1 + 1) #[.int .i64 0, .int .i64 0, .int .u64 0, .slice none 0 0, .int .i64 0] rfl rfl 57 _ P2.out fld_size rfl (fld_one _ _ _ _ _ _ _) ?_)
    have hl := Hs.out.hl
    have hnone : lastA ps num wire = none := find_none _ _ fun y hy => by
      have hd := downs_snd ps n (by omega)
      rw [List.take_of_length_le (by simp; omega)] at hd
      rw [← hd] at hy
      obtain ⟨x, hx, rfl⟩ := List.mem_map.1 hy
      exact Hno.out x hx
    rw [hnone]
    have hK' : ((W.setRow (w.heap.size + 1 + 1) #[.int .i64 0, .int .i64 0, .int .u64 0, .slice none 0 0, .int .i64 0]).setCell ⟨w.heap.size + 1 + 1 + 1, 0, none⟩ (.bool false)).heap[D]? = some (.deferred (some [])) := by
      rw [heap_setCell_other _ _ _ _ (by simp; omega), heap_setRow_other _ _ _ _ (by omega)]; exact HK.out
    refine ⟨by simp, .inl ⟨_, _, rfl, run_takeDeferred hK', ?_⟩⟩
    refine ⟨_, results_cell_bool rfl _ _ (w.heap.size + 1 + 1) (w.heap.size + 1 + 1 + 1) 57 _ (0, 0) _ false rfl rfl ((World.putObj_heap_other (by omega)).trans ((heap_setCell_other _ _ _ _ (by simp)).trans (setRow_heap _ _ _ _ _ _ P2.out))) Try.underlying57 rfl fld_size
      (load_bool _ _ _ _ _ ((World.putObj_heap_other (by omega)).trans (heap_setCell_same _ _ _ _ _ _ ((heap_setRow_other _ _ _ _ (by omega)).trans P3.out)))), rfl, ?_⟩
    exact ((Below.setRow' (hb1.trans (HB1.out.mono hb1.size)) (by omega) _).setCell (p := ⟨w.heap.size + 1 + 1 + 1, 0, none⟩) (by simp; omega) _).trans (belowK_b (w := w) (Nat.le_refl _) _ D _ _ (by omega) hK' rfl rfl)
  case stop =>
    rintro D c pre W hD ⟨k, hk, rfl⟩ ⟨rfl, pre', x, hpre, hno, hx, ⟨k2, k3⟩, hbel⟩ hK
    have hl := Hs.out.hl
    have hsome : lastA ps num wire = some x.2 := find_stop _ _ k (pre'.map (·.2)) x.2 (by rw [← downs_snd ps k (by omega), hpre]; simp) (fun y hy => by
      obtain ⟨z, hz, rfl⟩ := List.mem_map.1 hy
      exact hno z hz) hx
    have Hsome := Lib.hid hsome
    have HK := Lib.hid hK
    clear hsome hK hpre hno hx hl
    gi_wp2
    rw [Hsome.out]
    have hK := HK.out
    refine ⟨by simp, .inl ⟨_, _, rfl, run_takeDeferred hK, ?_⟩⟩
    refine ⟨_, results_cell_bool rfl _ _ (w.heap.size + 1 + 1) (w.heap.size + 1 + 1 + 1) 57 _ (0, 0) _ true rfl rfl ((World.putObj_heap_other (by omega)).trans k2) Try.underlying57 rfl fld_size
      (load_bool _ _ _ _ _ ((World.putObj_heap_other (by omega)).trans k3)), rfl, ?_⟩
    exact hbel.trans (belowK_b (w := w) (Nat.le_refl _) _ D _ _ (by omega) hK rfl rfl)

theorem last_p (A : Option Addr) (n c : Nat) (ps : List FA) (num : Int) (wire : Nat) (w : World) (hs : Flds w A n c ps) (hn : n ≤ 100000000) :
    Calls Try.prog 40 #[.slice A n c, .int .i64 num, .int .i64 (wire : Int)] w fun e W' => e = .returned (.tuple #[lastV (lastA ps num wire), .bool (lastA ps num wire).isSome]) ∧ Below w.heap.size w W' :=
  (callsIn_wide (n := 5)).1 (last_in Fence.wide 5 trivial trivial trivial rfl (Nat.le_refl _) A n c ps num wire w hs hn fun w => callsIn_wide.2 (back_p A n c w))
end Go.Proofs.Ytihclbiohljmlaa
