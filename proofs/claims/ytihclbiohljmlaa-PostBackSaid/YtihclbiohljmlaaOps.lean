/- One operation, its operands' values given: what it comes to. -/
import Derived.Test.YtihclbiohljmlaaRegion
namespace Go.Proofs.Ytihclbiohljmlaa
open Go.RowKit
set_option linter.unusedVariables false
section
variable {P : Program} {o : Oper} {ρ : Operand → Value} {w : World} {K : Value → World → Prop}

theorem opk_run {v : Value} {w' : World} (h : (execOp ρ o).run P w = .ok (.value v) w') (hK : K v w') : OpK P o ρ w K := by
  unfold OpK; rw [h]; exact hK
theorem opk_move {x : Operand} (h : o.op = .move x) (hK : K (ρ x) w) : OpK P o ρ w K := opk_run (by simp [execOp, h]) hK
theorem opk_assign {x : Operand} (h : o.op = .assign x) (hK : K (ρ x) w) : OpK P o ρ w K := opk_run (by simp [execOp, h]) hK
theorem opk_pick {c a b : Operand} {t : Bool} (h : o.op = .pick c a b) (hc : ρ c = .bool t) (hK : K (if t then ρ a else ρ b) w) : OpK P o ρ w K := opk_run (by simp [execOp, h, hc, asBool]) hK
theorem opk_eql_int {t ty : TypeId} {k : IntKind} {x y : Operand} {m n : Int} (h : o.op = .binOp .eql t x y ty) (hx : ρ x = .int k m) (hy : ρ y = .int k n) (hK : K (.bool (m == n)) w) : OpK P o ρ w K :=
  opk_run (by simp [execOp, h, hx, hy, go_sem]) hK
theorem opk_neq_int {t ty : TypeId} {k : IntKind} {x y : Operand} {m n : Int} (h : o.op = .binOp .neq t x y ty) (hx : ρ x = .int k m) (hy : ρ y = .int k n) (hK : K (.bool (m != n)) w) : OpK P o ρ w K :=
  opk_run (by simp [execOp, h, hx, hy, go_sem]) hK
theorem opk_mul_i64 {t ty : TypeId} {x y : Operand} {m n : Int} (h : o.op = .binOp .mul t x y ty) (hx : ρ x = .int .i64 m) (hy : ρ y = .int .i64 n) (hK : K (.int .i64 (IntKind.i64.wrap (m * n))) w) : OpK P o ρ w K :=
  opk_run (by simp [execOp, h, hx, hy, go_sem]) hK
theorem opk_eql_string {t ty : TypeId} {x y : Operand} {s u : ByteArray} (h : o.op = .binOp .eql t x y ty) (hx : ρ x = .string s) (hy : ρ y = .string u) (hK : K (.bool (s.toList == u.toList)) w) : OpK P o ρ w K :=
  opk_run (by simp [execOp, h, hx, hy, go_sem]) hK
theorem opk_not {t : TypeId} {x : Operand} {b : Bool} (h : o.op = .unOp .not t x) (hx : ρ x = .bool b) (hK : K (.bool (!b)) w) : OpK P o ρ w K :=
  opk_run (by simp [execOp, h, hx, go_sem]) hK
theorem opk_len {t e : TypeId} {x : Operand} {A : Option Addr} {n c : Nat} (ht : P.underlying t = some (.slice e)) (h : o.op = .call { callee := .builtin .len, args := #[x], argTypes := #[t] }) (hx : ρ x = .slice A n c) (hK : K (.int .i64 (n : Int)) w) : OpK P o ρ w K :=
  opk_run (by simp [execOp, h, hx, go_sem, resolve, invoke, builtin, Builtin.len_, run_underlying ht]) hK
theorem opk_extract {x : Operand} {i : Nat} {vs : Array Value} {v : Value} (h : o.op = .extract x i) (hx : ρ x = .tuple vs) (hv : vs[i]? = some v) (hK : K v w) : OpK P o ρ w K :=
  opk_run (by simp [execOp, h, hx, go_sem, Instr.extract, hv]) hK

theorem opk_call {f : FuncId} {fn : Func} {xs : Array Operand} {ats : Array TypeId} (h : o.op = .call { callee := .value (.func f), args := xs, argTypes := ats }) (hc : Consts ρ) (hf : P.funcs[f]? = some fn)
    (hn : (fn.name == "runtime.NumGoroutine") = false) (hb : fn.body.isNone = false) (hK : Calls P f (xs.map ρ) w fun e w' => ∃ v, e = .returned v ∧ K v w') : OpK P o ρ w K := by
  have hn' : fn.name ≠ "runtime.NumGoroutine" := by simpa using hn
  have hb' : fn.body ≠ none := by intro h; simp [h] at hb
  have hr : (execOp ρ o).run P w = .ok (.enter f (xs.map ρ)) w := by
    simp [execOp, h, hc.2.2 f, resolve, Deferred.ofValue, invoke, callFunc, hf, hn', hb']
  unfold OpK
  rw [hr]
  exact hK
end

/-- The text that bytes make. -/
def strOf (l : List Nat) : ByteArray := strOfNums (l.map fun (x : Nat) => (x : Int))

theorem run_convert_sl {P : Program} {w : World} {src e dst : TypeId} (hs : P.underlying src = some (.slice e)) (he : P.underlying e = some (.int .u8)) (hd : P.underlying dst = some .string)
    {A : Option Addr} {n c : Nat} {bs : List Nat} (h : Sl w A n c (nats .u8 bs)) : (convert src dst (.slice A n c)).run P w = .ok (.string (strOf bs)) w := by
  have hl := h.len
  rw [nats_length] at hl
  rcases Nat.eq_zero_or_pos n with h0 | h0
  · subst h0
    have hb : bs = [] := List.eq_nil_of_length_eq_zero hl
    subst hb
    rw [run_convert_bytes_string w src dst e A 0 c hs he hd]
    rcases A with _ | ad
    · simp [Conv.bytesToString]; rfl
    · rw [run_bytesToString w ad 0 c [] (by simp [loadCells, loadCellsFrom])]
      rfl
  · obtain ⟨b, off, rfl, _, hcell⟩ := h.at_ h0
    refine run_convert_bytes_arg w src e hs he b off n c (bs.map fun (x : Nat) => (x : Int)) (by simpa using hl) (fun i hi => ?_) dst hd
    rw [hcell i hi, nats_getD _ _ _ (by omega)]
    simp [show i < bs.length from by omega]

section
variable {P : Program} {o : Oper} {ρ : Operand → Value} {w : World} {K : Value → World → Prop}
theorem opk_str {src dst e : TypeId} {x : Operand} (h : o.op = .convert src dst x) (hs : P.underlying src = some (.slice e)) (he : P.underlying e = some (.int .u8)) (hd : P.underlying dst = some .string)
    {A : Option Addr} {n c : Nat} {bs : List Nat} (hx : ρ x = .slice A n c) (hsl : Sl w A n c (nats .u8 bs)) (hK : K (.string (strOf bs)) w) : OpK P o ρ w K :=
  opk_run (by simp [execOp, h, hx, run_convert_sl hs he hd hsl]) hK
end

theorem Sl.take {w : World} {A : Option Addr} {n c : Nat} {xs : List Value} (h : Sl w A n c xs) (k : Nat) (hk : k ≤ n) : Sl w A k c (xs.take k) :=
  ⟨by rw [List.length_take, h.len]; omega, by have := h.le; omega, h.max, h.nil, (fun ad hA j u hu => by
    rw [List.getElem?_take] at hu
    split at hu
    · exact h.cells ad hA j u hu
    · cases hu), fun u hu => h.one u (List.mem_of_mem_take hu)⟩

theorem add_of_add (a : Addr) (i j : Nat) : (a.add i).add j = a.add (i + j) := by
  unfold Addr.add
  by_cases hi : i = 0 <;> by_cases hj : j = 0 <;> simp [hi, hj, Nat.add_assoc]

/-- The address of 's[k:]'. -/
def dropA (A : Option Addr) (c k : Nat) : Option Addr := if c = k then A else A.map (·.add k)

theorem Sl.drop {w : World} {A : Option Addr} {n c : Nat} {xs : List Value} (h : Sl w A n c xs) (k : Nat) (hk : k ≤ n) : Sl w (dropA A c k) (n - k) (c - k) (xs.drop k) := by
  have hle := h.le
  refine ⟨by rw [List.length_drop, h.len], by omega, by have := h.max; omega, fun hA => ?_, fun ad hA j u hu => ?_, fun u hu => h.one u (List.mem_of_mem_drop hu)⟩
  · unfold dropA at hA
    split at hA
    · have := h.nil hA; omega
    · rcases A with _ | a
      · have := h.nil rfl; omega
      · cases hA
  · rw [List.getElem?_drop] at hu
    unfold dropA at hA
    split at hA
    · rename_i hck
      have : xs[k + j]? = none := List.getElem?_eq_none (by have := h.len; omega)
      rw [this] at hu
      cases hu
    · rcases A with _ | a
      · cases hA
      · injection hA with hA
        subst hA
        rw [add_of_add]
        exact h.cells a rfl _ u hu

theorem run_slice_hi {P : Program} {w : World} {t e : TypeId} {i : TypeInfo} (ht : P.underlying t = some (.slice e)) (hi : P.info? e = some i) (hsize : i.size = 1) (A : Option Addr) (n c k : Nat) (hk : k ≤ n) (hn : n ≤ c) (hc : c ≤ maxLen) :
    (Instr.slice t (.slice A n c) none (some (.int .i64 (k : Int))) none).run P w = .ok (.slice A k c) w := by
  have h1 : ¬ c < k := by omega
  rcases A with _ | a
  · simp [Instr.slice, run_underlying ht, Instr.sliceBounds, Instr.sliceBound, asIntOf, h1, sizeOf, typeInfo, hi]
  · simp [Instr.slice, run_underlying ht, Instr.sliceBounds, Instr.sliceBound, asIntOf, h1, sizeOf, typeInfo, hi, Addr.add]

theorem run_slice_lo {P : Program} {w : World} {t e : TypeId} {i : TypeInfo} (ht : P.underlying t = some (.slice e)) (hi : P.info? e = some i) (hsize : i.size = 1) (A : Option Addr) (n c k : Nat) (hk : k ≤ n) (hn : n ≤ c) (hc : c ≤ maxLen) :
    (Instr.slice t (.slice A n c) (some (.int .i64 (k : Int))) none none).run P w = .ok (.slice (dropA A c k) (n - k) (c - k)) w := by
  have h1 : ¬ n < k := by omega
  simp [Instr.slice, run_underlying ht, Instr.sliceBounds, Instr.sliceBound, asIntOf, h1, sizeOf, typeInfo, hi, hsize, dropA]

section
variable {P : Program} {o : Oper} {ρ : Operand → Value} {w : World} {K : Value → World → Prop}
theorem opk_slice_hi {t e : TypeId} {i : TypeInfo} {x y : Operand} (ht : P.underlying t = some (.slice e)) (hi : P.info? e = some i) (hsize : i.size = 1) (h : o.op = .slice t x none (some y) none)
    {A : Option Addr} {n c k : Nat} {xs : List Value} (hx : ρ x = .slice A n c) (hs : Sl w A n c xs) (hy : ρ y = .int .i64 (k : Int)) (hk : k ≤ n) (hK : K (.slice A k c) w) : OpK P o ρ w K :=
  opk_run (by simp [execOp, h, hx, hy, Instr.sliceAt, run_underlying ht, run_slice_hi ht hi hsize A n c k hk hs.le hs.max]) hK
theorem opk_slice_lo {t e : TypeId} {i : TypeInfo} {x y : Operand} (ht : P.underlying t = some (.slice e)) (hi : P.info? e = some i) (hsize : i.size = 1) (h : o.op = .slice t x (some y) none none)
    {A : Option Addr} {n c k : Nat} {xs : List Value} (hx : ρ x = .slice A n c) (hs : Sl w A n c xs) (hy : ρ y = .int .i64 (k : Int)) (hk : k ≤ n) (hK : K (.slice (dropA A c k) (n - k) (c - k)) w) : OpK P o ρ w K :=
  opk_run (by simp [execOp, h, hx, hy, Instr.sliceAt, run_underlying ht, run_slice_lo ht hi hsize A n c k hk hs.le hs.max]) hK
end

/-- The frame behind a region: written out, the slots that it wrote as they are. -/
theorem act_lit (a' : Act) (tm : Array Value) (ds : List Deferred) (D : List Tmp) (hsz : a'.tmps.size = tm.size) (hd : a'.defers = ds) (hU : ∀ t, t ∉ D → a'.tmps.getD t undef = tm.getD t undef) :
    ∃ f : Tmp → Value, (∀ t, f t = a'.tmps.getD t undef) ∧ a' = ⟨((List.range tm.size).map fun t => if D.contains t then f t else tm.getD t undef).toArray, ds⟩ := by
  refine ⟨fun t => a'.tmps.getD t undef, fun _ => rfl, ?_⟩
  obtain ⟨tm', ds'⟩ := a'
  simp only at hd hsz hU ⊢
  subst hd
  congr 1
  refine Array.ext (by simp [hsz]) fun i h1 h2 => ?_
  simp only [List.getElem_toArray, List.getElem_map, List.getElem_range]
  have e : tm'.getD i undef = tm'[i] := by simp [h1]
  by_cases hD : D.contains i = true
  · rw [if_pos hD, e]
  · rw [if_neg hD, ← hU i (by simpa using hD), e]
end Go.Proofs.Ytihclbiohljmlaa
