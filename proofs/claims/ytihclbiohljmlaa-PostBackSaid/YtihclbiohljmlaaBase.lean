/- Words for slices that read as lists, used by all walks of this seat. -/
import Derived.Test.YtihclbiohljmlaaProg
import Derived.WalkKit
import Derived.WalkSpells
import Derived.WalkLawsBesides
import Derived.Lib.Hide
import Derived.Deep.AppendLies
import Derived.Deep.Draws
import Derived.BigQuiet
import Derived.Deep.QuietTactic
namespace Go.Proofs.Ytihclbiohljmlaa
open Go.RowKit

/-- The slice value '.slice A n c' reads as the cells xs in world w. -/
structure Sl (w : World) (A : Option Addr) (n c : Nat) (xs : List Value) : Prop where
  len : xs.length = n
  le : n ≤ c
  max : c ≤ maxLen
  nil : A = none → c = 0
  cells : ∀ ad, A = some ad → ∀ j u, xs[j]? = some u → w.cell? (ad.add j) = some u
  one : ∀ u ∈ xs, u.oneCell' = true

theorem add_none (b off j : Nat) : (⟨b, off, none⟩ : Addr).add j = ⟨b, off + j, none⟩ := by
  unfold Addr.add; split <;> simp_all

theorem block_add (a : Addr) (n : Nat) : (a.add n).block = a.block := by unfold Addr.add; split <;> rfl

section
variable {w w' : World} {A : Option Addr} {n c : Nat} {xs : List Value}

theorem Sl.none_ (w : World) : Sl w none 0 0 [] := ⟨rfl, Nat.le_refl _, Nat.zero_le _, fun _ => rfl, (fun _ h => by cases h), (fun _ h => by cases h)⟩

theorem Sl.at_ (h : Sl w A n c xs) (hn : 0 < n) : ∃ b off, A = some ⟨b, off, none⟩ ∧ b < w.heap.size ∧ ∀ j, j < n → w.cell? ⟨b, off + j, none⟩ = some (xs.getD j undef) := by
  have hl := h.len
  rcases hA : A with _ | ad
  · have := h.nil hA; have := h.le; omega
  · have h0 := h.cells ad hA 0 (xs[0]'(by omega)) (by simp [List.getElem?_eq_getElem (show 0 < xs.length by omega)])
    obtain ⟨b, off, sp⟩ := ad
    have hs : sp = none := by
      have := World.cell?_spot h0
      simpa [Addr.add] using this
    subst hs
    have hb := World.block_lt_of_cell? w _ h0
    refine ⟨b, off, rfl, by simpa [Addr.add] using hb, fun j hj => ?_⟩
    have := h.cells _ hA j (xs[j]'(by omega)) (List.getElem?_eq_getElem (by omega))
    rw [add_none] at this
    rw [this, List.getD_eq_getElem?_getD, List.getElem?_eq_getElem (by omega)]
    rfl

theorem Sl.keep (h : Sl w A n c xs) (hb : Below w.heap.size w w') : Sl w' A n c xs :=
  ⟨h.len, h.le, h.max, h.nil, fun ad hA j u hu => by
    have := h.cells ad hA j u hu
    exact (hb.cell (World.block_lt_of_cell? w _ this)).trans this, h.one⟩

theorem Sl.of_own {base : Nat} {e : TypeId} {v : Value} (h : w.ownsRow base e 1 v n xs) (h1 : ∀ u ∈ xs, u.oneCell' = true) : ∃ A c, v = .slice A n c ∧ Sl w A n c xs := by
  rcases h.2 with ⟨rfl, rfl⟩ | ⟨g, cap, cur, rfl, hb, hg, hle, hm, hs, ht⟩
  · have : xs = [] := List.eq_nil_of_length_eq_zero (by simpa using h.1)
    subst this
    exact ⟨none, 0, rfl, Sl.none_ w⟩
  · refine ⟨some ⟨g, 0, none⟩, cap, rfl, ⟨by simpa using h.1, hle, hm, (fun h => by cases h), fun ad had j u hu => ?_, h1⟩⟩
    injection had with had
    subst had
    exact h.cells (g := g) rfl j u hu
end

theorem below_trans' {w w' w'' : World} (h : Below w.heap.size w w') (h' : Below w'.heap.size w' w'') : Below w.heap.size w w'' := h.trans (h'.mono h.size)
theorem below_new (w : World) (o : Obj) : Below w.heap.size w (w.alloc o) := (Below.refl _ _).alloc (Nat.le_refl _) _
theorem below_drewN (w : World) (k : Nat) : Below w.heap.size w (w.drewN k) := ⟨rfl, rfl, rfl, Nat.le_refl _, fun _ _ => rfl⟩

theorem Sl.lit (w : World) (l : List Value) (n : Nat) (e : TypeId) (hn : l.length = n) (hm : n ≤ maxLen) (h1 : ∀ u ∈ l, u.oneCell' = true) : Sl (w.alloc (.cells l.toArray e)) (some ⟨w.heap.size, 0, none⟩) n n l := by
  refine ⟨hn, Nat.le_refl _, hm, (fun h => by cases h), (fun ad had j u hu => ?_), h1⟩
  injection had with had
  subst had
  rw [add_none, Nat.zero_add]
  rw [cell_of_row (w.alloc (.cells l.toArray e)) w.heap.size j l.toArray e (0, 0) (heap_alloc_new w _)]
  simpa using hu

theorem Sl.of_own_at {w : World} {base : Nat} {e : TypeId} {g n cap : Nat} {xs : List Value} (h : w.ownsRow base e 1 (.slice (some ⟨g, 0, none⟩) n cap) n xs) (h1 : ∀ u ∈ xs, u.oneCell' = true) : Sl w (some ⟨g, 0, none⟩) n cap xs := by
  obtain ⟨A, c, hv, hs⟩ := Sl.of_own h h1
  injection hv with h1 h2 h3
  subst h1 h3
  exact hs

section
variable {P : Program}

theorem run_append_of_nil (w : World) (base : Nat) (t ty e : TypeId) (i : TypeInfo) (size : Nat) (ht : P.underlying t = some (.slice e)) (hi : P.info? e = some i)
    (v : Value) (n : Nat) (xs : List Value) (hown : w.ownsRow base e size v n xs) (c : Nat) : (Builtin.append_ #[t, t] ty #[v, .slice none 0 c]).run P w = .ok v w := by
  rcases hown.2 with ⟨rfl, rfl⟩ | ⟨g, cap, cur, rfl, _, _, hnc, _⟩
  · simp [Builtin.append_, run_underlying ht, sizeOf, typeInfo, hi, Builtin.lenOf, Builtin.firstCells]
  · simp [Builtin.append_, run_underlying ht, sizeOf, typeInfo, hi, Builtin.lenOf, Builtin.firstCells, hnc, storeCells]

/-- append onto a row of the call's own, from whatever slice. -/
theorem run_append_sl (w : World) (base : Nat) (t ty e : TypeId) (i : TypeInfo) (z : Value) (bytes : Nat) (ht : P.underlying t = some (.slice e)) (hi : P.info? e = some i) (hz : i.zero = some z)
    (hsize : i.size = 1) (hby : i.bytes = bytes) (hzs : z.cells.size = 1)
    (v : Value) (n : Nat) (xs : List Value) (hown : w.ownsRow base e 1 v n xs)
    (A : Option Addr) (m c : Nat) (news : List Value) (hr : Sl w A m c news)
    (h63 : n + m ≤ maxLen) (hbytes : (n + m) * bytes ≤ 140737488355328) (hbase : base ≤ w.heap.size) :
    ∃ v' w', (Builtin.append_ #[t, t] ty #[v, .slice A m c]).run P w = .ok v' w' ∧ w'.ownsRow base e 1 v' (n + m) (xs ++ news) ∧ w.grownBy w' v.ownBlock ∧
      (v'.ownBlock = v.ownBlock ∨ v'.ownBlock = some w.heap.size) := by
  rcases A with _ | ad
  · have hm : m = 0 := by have := hr.nil rfl; have := hr.le; omega
    subst hm
    have hn : news = [] := List.eq_nil_of_length_eq_zero hr.len
    subst hn
    exact ⟨v, w, run_append_of_nil w base t ty e i 1 ht hi v n xs hown c, by simpa using hown, World.grownBy.refl w _, .inl rfl⟩
  · obtain ⟨v', w', hrun, h2, h3, _, h5⟩ := run_append_own_at (P := P) w base t ty e i z 1 bytes ht hi hz hsize hby hzs (by decide) v n xs hown ad m c news (by rw [hr.len]; omega) (hr.cells ad rfl) hr.one h63 hbytes hbase
    exact ⟨v', w', hrun, h2, h3, h5⟩

theorem below_of_grown {w w' : World} {base : Nat} {e : TypeId} {size n : Nat} {v : Value} {xs : List Value} (hown : w.ownsRow base e size v n xs) (hg : w.grownBy w' v.ownBlock) (hb : base ≤ w.heap.size) : Below base w w' :=
  (Below.refl base w).grown hg hb fun k hk => (hown.lt k hk).1

theorem wpList_append_sl {w : World} {ops : Array Oper} {rest : List Oper} {o : Oper} {a : Act} {Q : Exit → Act → World → Prop} (hgd : o.guard = none) (s x : Operand) (t : TypeId)
    (ho : o.op = .call { callee := .builtin .append, args := #[s, x], argTypes := #[t, t] })
    (base : Nat) (e : TypeId) (i : TypeInfo) (z : Value) (bytes : Nat) (ht : P.underlying t = some (.slice e)) (hi : P.info? e = some i) (hz : i.zero = some z)
    (hsize : i.size = 1) (hby : i.bytes = bytes) (hzs : z.cells.size = 1)
    (v : Value) (n : Nat) (xs : List Value) (hs : a.eval s = v) (hown : w.ownsRow base e 1 v n xs)
    (A : Option Addr) (m c : Nat) (news : List Value) (hx : a.eval x = .slice A m c) (hr : Sl w A m c news)
    (h63 : n + m ≤ maxLen) (hbytes : (n + m) * bytes ≤ 140737488355328) (hbase : base ≤ w.heap.size)
    (h : ∀ v' w', w'.ownsRow base e 1 v' (n + m) (xs ++ news) → Below base w w' → w.grownBy w' v.ownBlock → (v'.ownBlock = v.ownBlock ∨ v'.ownBlock = some w.heap.size) → wpList P ops Q rest (a.put o.dst v') w') : wpList P ops Q (o :: rest) a w :=
  wpList_plain hgd fun _ hK => by
    obtain ⟨v', w', hrun, h2, h3, h4⟩ := run_append_sl (P := P) w base t o.type e i z bytes ht hi hz hsize hby hzs v n xs hown A m c news hr h63 hbytes hbase
    unfold Oper.wp execOp
    simp only [ho, resolve, invoke, builtin, Sem.run_bind, Sem.run_pure, Result.andThen_ok, List.map_toArray, List.map_cons, List.map_nil, hs, hx, hrun]
    exact hK _ _ (h v' w' h2 (below_of_grown hown h3 hbase) h3 h4)
end

/-- The one cell that 'append(s, x)' lays for x. -/
theorem Sl.one_new (w : World) (x : Value) (t : TypeId) (h1 : x.oneCell' = true) : Sl (w.alloc (.cells #[x] t)) (some ⟨w.heap.size, 0, none⟩) 1 1 [x] :=
  ⟨rfl, Nat.le_refl _, by decide, (fun h => by cases h), (fun ad had j u hu => by injection had with had; subst had; exact cell_one_new w x t j u hu), (fun u hu => by simp at hu; subst hu; exact h1)⟩

/-- Numbers as values. -/
def nats (k : IntKind) (l : List Nat) : List Value := l.map fun (x : Nat) => Value.int k (x : Int)
theorem nats_length (k : IntKind) (l : List Nat) : (nats k l).length = l.length := by simp [nats]
theorem nats_append (k : IntKind) (l m : List Nat) : nats k (l ++ m) = nats k l ++ nats k m := by simp [nats]
theorem nats_one (k : IntKind) (l : List Nat) : ∀ u ∈ nats k l, u.oneCell' = true := by
  intro u hu
  simp only [nats, List.mem_map] at hu
  obtain ⟨x, _, rfl⟩ := hu
  rfl
theorem nats_getD (k : IntKind) (l : List Nat) (j : Nat) (h : j < l.length) : (nats k l).getD j undef = .int k ((l.getD j 0 : Nat) : Int) := by simp [nats, h]
theorem nats_set (k : IntKind) (l : List Nat) (j x : Nat) : (nats k l).set j (.int k (x : Int)) = nats k (l.set j x) := by simp [nats, List.map_set]

theorem Try.info5 : (Try.prog.info? 5).map (fun i => (i.zero, i.size, i.bytes)) = some (some (.int .u8 0), 1, 1) := by kernel_rfl
theorem Try.info31 : (Try.prog.info? 31).map (fun i => (i.zero, i.size, i.bytes)) = some (some (.int .u64 0), 1, 8) := by kernel_rfl
end Go.Proofs.Ytihclbiohljmlaa
