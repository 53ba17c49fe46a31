/- A region that draws its order and, behind all that reads, writes (an append in place, a copy) and stores: the world is said in three stages. -/
import Derived.Test.YtihclbiohljmlaaRegionW
namespace Go.Proofs.Ytihclbiohljmlaa
open Go.RowKit
set_option linter.unusedVariables false

/-- The fact says nothing of memory. -/
def Fact.Free (F : Fact) : Prop := ∀ v w w', F.holds v w → F.holds v w'
theorem Fact.free_any : Fact.any.Free := fun _ _ _ _ => trivial
theorem Fact.free_is (v : Value) : (Fact.is v).Free := fun _ _ _ h => h

/-- ahead of what writes; at any time; what writes; what stores. -/
inductive Cls where
  | pre | pure | put | store
deriving BEq, DecidableEq

def PreP (w : World) (P1 : World → Prop) (c : Cls) (w' : World) : Prop :=
  match c with
  | .pre => Below w.heap.size w w'
  | .pure => True
  | .put => Below w.heap.size w w'
  | .store => P1 w'
def StepP (P1 P2 : World → Prop) (c : Cls) (w' w'' : World) : Prop :=
  match c with
  | .pre => Below w'.heap.size w' w''
  | .pure => w'' = w'
  | .put => P1 w''
  | .store => P2 w''

def ObP (P : Program) (F : List Fact) (tm : Array Value) (w : World) (P1 P2 : World → Prop) (c : Cls) (runs : Bool) (S : Src) (i : Nat) (o : Oper) : Prop :=
  ∀ (ρ : Operand → Value) (w' : World), Consts ρ → PreP w P1 c w' →
    Chain F tm ρ w' S (if runs then OpK P o ρ w' fun v w'' => StepP P1 P2 c w' w'' ∧ (F.getD i .any).holds v w'' else (F.getD i .any).holds undef w')

def clsOk (l : List Oper) (C : List (List Nat)) (S : List Src) (cls : List Cls) (free : List Bool) (R : List Bool) (k1 k2 : Nat) : Bool :=
  decide (k1 < l.length) && ((decide (l.length ≤ k2) || (C.getD k2 []).contains k1)) &&
  l.zipIdx.all fun (o, i) =>
    (match cls.getD i .pre with
      | .pre => (C.getD k1 []).contains i && decide (i ≠ k1) && decide (i ≠ k2)
      | .pure => decide (i ≠ k1) && decide (i ≠ k2) && ((S.getD i []).all fun p => match p.2 with | some j => free.getD j false | none => true)
      | .put => decide (i = k1) && decide (i ≠ k2) && R.getD i true
      | .store => decide (i = k2) && decide (i ≠ k1) && R.getD i true && ((S.getD i []).all fun p => match p.2 with | some j => free.getD j false || decide (j = k1) | none => true))
    && (match o.guard with | none => true | some (g, _) => free.getD g false || (C.getD k1 []).contains i || decide (i = k1))

theorem region_put_facts {P : Program} {Q : Exit → Act → World → Prop} {id : Nat} {a : Act} {w : World} (l : List Oper) (F : List Fact) (S : List Src) (R : List Bool) (cls : List Cls) (free : List Bool) (k1 k2 : Nat) (P1 P2 : World → Prop)
    (hm : P.follows .mixedOrders = true) (hok : regionOk l a.tmps.size S = true) (hcls : clsOk l (clos l) S cls free R k1 k2 = true) (hfree : ∀ i, free.getD i false = true → (F.getD i .any).Free)
    (hob : ∀ i o, l[i]? = some o → ObP P F a.tmps w P1 P2 (cls.getD i .pre) (R.getD i true) (S.getD i []) i o ∧ GuardOb F (R.getD i true) o)
    (hend : ∀ a' w', (if k2 < l.length then P2 w' else P1 w') → a'.tmps.size = a.tmps.size → a'.defers = a.defers →
      (∀ i o d, l[i]? = some o → free.getD i false = true → o.dst = some d → (F.getD i .any).holds (a'.tmps.getD d undef) w') →
      (∀ t, (∀ (i : Nat) o, l[i]? = some o → o.dst ≠ some t) → a'.tmps.getD t undef = a.tmps.getD t undef) → Q .normal a' w') :
    (Code.region id l.toArray true).wp P Q a w := by
  simp only [regionOk, Bool.and_eq_true] at hok
  obtain ⟨⟨hC, hS⟩, hD⟩ := hok
  simp only [clsOk, Bool.and_eq_true] at hcls
  obtain ⟨⟨hk1l, hk2s⟩, hcl0⟩ := hcls
  generalize clos l = C at hC hS hk2s hcl0
  have hC1 : ∀ (i : Nat) o, l[i]? = some o → (∀ e ∈ o.after, Region.binds .any e = true → e.on < i) ∧
      ∀ j ∈ C.getD i [], ∃ e ∈ o.after, Region.binds .any e = true ∧ (e.on = j ∨ j ∈ C.getD e.on []) := by
    intro i o ho
    have := List.all_eq_true.1 hC (o, i) (by rw [List.mem_zipIdx_iff_getElem?]; exact ho)
    simp only [Bool.and_eq_true, List.all_eq_true, List.any_eq_true, Bool.or_eq_true, Bool.not_eq_true', decide_eq_true_eq, beq_iff_eq, List.contains_iff_mem, Array.mem_toList_iff] at this
    refine ⟨fun e he hb => (this.1 e he).resolve_left (by simp [hb]), fun j hj => ?_⟩
    obtain ⟨e, he, hb, h⟩ := this.2 j hj
    exact ⟨e, he, hb, h⟩
  let closed : Array Bool → Prop := fun L => ∀ (k : Nat) o, l[k]? = some o → L.getD k false = true → ∀ e ∈ o.after, Region.binds .any e = true → L.getD e.on false = true
  have hcl : ∀ L, closed L → ∀ n (i : Nat), i < n → ∀ o, l[i]? = some o → (∀ e ∈ o.after, Region.binds .any e = true → L.getD e.on false = true) → ∀ j ∈ C.getD i [], L.getD j false = true := by
    intro L hL n
    induction n with
    | zero => intro i hi; omega
    | succ n ih =>
      intro i hi o ho hall j hj
      obtain ⟨e, he, hb, h | h⟩ := (hC1 i o ho).2 j hj
      · rw [← h]; exact hall e he hb
      · have hlt := (hC1 i o ho).1 e he hb
        have hle : i < l.length := (List.getElem?_eq_some_iff.1 ho).1
        have hoe : l[e.on]? = some (l[e.on]'(by omega)) := List.getElem?_eq_getElem (by omega)
        exact ih e.on (by omega) _ hoe (fun e' he' hb' => hL _ _ hoe (hall e he hb) e' he' hb') j h
  have hS1 : ∀ (i : Nat) o, l[i]? = some o → (∀ p ∈ S.getD i [], match p.2 with
      | some j => ((l[j]?).map (·.dst)) = some (some p.1) ∧ j ∈ C.getD i []
      | none => ∀ (j : Nat) x, l[j]? = some x → x.dst = some p.1 → i ∈ C.getD j []) ∧ (∀ g want, o.guard = some (g, want) → g ∈ C.getD i [] ∧ ∃ og dg, l[g]? = some og ∧ og.dst = some dg) := by
    intro i o ho
    have := List.all_eq_true.1 hS (o, i) (by rw [List.mem_zipIdx_iff_getElem?]; exact ho)
    simp only [Bool.and_eq_true] at this
    refine ⟨fun p hp => ?_, fun g want hg => ?_⟩
    · have h2 := List.all_eq_true.1 this.1 p hp
      obtain ⟨t, x⟩ := p
      cases x with
      | some j => simp only [Bool.and_eq_true, beq_iff_eq, List.contains_iff_mem] at h2; exact h2
      | none =>
        intro j x hj hx
        have h3 := List.all_eq_true.1 h2 (x, j) (by rw [List.mem_zipIdx_iff_getElem?]; exact hj)
        simp only [Bool.or_eq_true, List.contains_iff_mem] at h3
        rcases h3 with h3 | h3
        · simp [hx] at h3
        · exact h3
    · have h2 := this.2
      rw [hg] at h2
      simp only [Bool.and_eq_true, List.contains_iff_mem] at h2
      refine ⟨h2.1, ?_⟩
      have h3 := h2.2
      cases hl : l[g]? with
      | none => simp [hl] at h3
      | some og =>
        rw [hl] at h3
        simp only [Option.bind_some] at h3
        obtain ⟨dg, hdg⟩ := Option.isSome_iff_exists.1 h3
        exact ⟨og, dg, rfl, hdg⟩
  simp only [dstOk, Bool.and_eq_true, decide_eq_true_eq] at hD
  have hD1 : ∀ (i : Nat) o d, l[i]? = some o → o.dst = some d → d < a.tmps.size := by
    intro i o d ho hd
    have := List.all_eq_true.1 hD.1 o (List.mem_of_getElem? ho)
    rw [hd] at this
    simpa using this
  have hD2 : ∀ (i j : Nat) o o' d, l[i]? = some o → l[j]? = some o' → o.dst = some d → o'.dst = some d → i = j := by
    have key : ∀ (m : List Oper), (m.filterMap (·.dst)).Nodup → ∀ (i j : Nat) o o' d, m[i]? = some o → m[j]? = some o' → o.dst = some d → o'.dst = some d → i = j := by
      intro m
      induction m with
      | nil => intro _ i j o o' d hi; simp at hi
      | cons x m ih =>
        intro hn i j o o' d hi hj hd hd'
        have hmem : ∀ (k : Nat) o, m[k]? = some o → o.dst = some d → d ∈ m.filterMap (·.dst) := fun k o hk hd => List.mem_filterMap.2 ⟨o, List.mem_of_getElem? hk, hd⟩
        have hn' : (m.filterMap (·.dst)).Nodup := by
          rw [List.filterMap_cons] at hn
          cases hx : x.dst with
          | none => simpa [hx] using hn
          | some e => rw [hx] at hn; exact (List.nodup_cons.1 hn).2
        cases i with
        | zero =>
          cases j with
          | zero => rfl
          | succ j =>
            simp only [List.getElem?_cons_zero, Option.some.injEq] at hi
            subst hi
            simp only [List.getElem?_cons_succ] at hj
            rw [List.filterMap_cons, hd] at hn
            exact absurd (hmem j o' hj hd') (List.nodup_cons.1 hn).1
        | succ i =>
          simp only [List.getElem?_cons_succ] at hi
          cases j with
          | zero =>
            simp only [List.getElem?_cons_zero, Option.some.injEq] at hj
            subst hj
            rw [List.filterMap_cons, hd'] at hn
            exact absurd (hmem i o hi hd) (List.nodup_cons.1 hn).1
          | succ j =>
            simp only [List.getElem?_cons_succ] at hj
            rw [ih hn' i j o o' d hi hj hd hd']
    exact key l hD.2
  simp only [decide_eq_true_eq] at hk1l
  let WI : Array Bool → World → Prop := fun L w' => if L.getD k2 false then P2 w' else if L.getD k1 false then P1 w' else Below w.heap.size w w'
  let I : Array Bool → Act → World → Prop := fun L a' w' =>
    L.size = l.length ∧ closed L ∧ WI L w' ∧ a'.tmps.size = a.tmps.size ∧ a'.defers = a.defers ∧
    (∀ (k : Nat) o d, l[k]? = some o → L.getD k false = true → (free.getD k false = false → L.getD k1 false = false ∨ (k = k1 ∧ L.getD k2 false = false)) → o.dst = some d → (F.getD k .any).holds (a'.tmps.getD d undef) w') ∧
    (∀ t, (∀ (k : Nat) o, l[k]? = some o → L.getD k false = true → o.dst ≠ some t) → a'.tmps.getD t undef = a.tmps.getD t undef)
  refine wp_region_any hm (wpAny_inv I (fun L a' w' h => h.1) ?_ ?_ _ _ _ _ ?_ ?_)
  · -- one step
    intro L a' w' i hI hi
    obtain ⟨h1, h2, h3, h4, h5, h6, h7⟩ := hI
    obtain ⟨hun, o, ho, hall⟩ := mem_ready.1 hi
    have ho' : l[i]? = some o := by simpa using ho
    have hlt : i < L.size := by rw [h1]; exact (List.getElem?_eq_some_iff.1 ho').1
    have hunf : L.getD i false = false := by simpa [hlt] using hun
    obtain ⟨hob1, hgd⟩ := hob i o ho'
    have hc1 := List.all_eq_true.1 hcl0 (o, i) (by rw [List.mem_zipIdx_iff_getElem?]; exact ho')
    simp only [Bool.and_eq_true] at hc1
    obtain ⟨hc1, hc2⟩ := hc1
    have hrange : ∀ k, L.getD k false = true → k < l.length := fun k hk => by
      rcases Nat.lt_or_ge k l.length with h | h
      · exact h
      · have h8 : ¬ k < L.size := by omega
        simp [h8] at hk
    -- who is done has what is ahead of it done
    have hdoneC : ∀ k j, L.getD k false = true → j ∈ C.getD k [] → L.getD j false = true := fun k j hk hj => by
      have hkl := hrange k hk
      have hl : l[k]? = some l[k] := List.getElem?_eq_getElem hkl
      exact hcl L h2 (k + 1) k (by omega) _ hl (h2 k _ hl hk) j hj
    have hnot1 : (i = k1 ∨ i ∈ C.getD k1 []) → L.getD k1 false = false := by
      rintro (rfl | hik)
      · exact hunf
      · rcases hb : L.getD k1 false with _ | _
        · rfl
        · have := hdoneC k1 i hb hik
          rw [hunf] at this; cases this
    have h21 : L.getD k2 false = true → L.getD k1 false = true := fun h => by
      rcases (by simpa using hk2s : l.length ≤ k2 ∨ k1 ∈ C.getD k2 []) with h8 | h8
      · have := hrange k2 h; omega
      · exact hdoneC k2 k1 h h8
    have hphase0 : L.getD k1 false = false → Below w.heap.size w w' := fun h => by
      have h8 : L.getD k2 false = false := by
        rcases hb : L.getD k2 false with _ | _
        · rfl
        · rw [h21 hb] at h; cases h
      have h9 : WI L w' := h3
      simp only [WI, h8, h] at h9
      exact h9
    have hC' := hcl L h2 (i + 1) i (by omega) o ho' hall
    have hsrc : (∀ p ∈ S.getD i [], match p.2 with | some j => free.getD j false = false → L.getD k1 false = false ∨ (j = k1 ∧ L.getD k2 false = false) | none => True) := by
      intro p hp
      obtain ⟨t, x⟩ := p
      cases x with
      | none => trivial
      | some j =>
        intro hfj
        cases hcc : cls.getD i .pre with
        | pre =>
          rw [hcc] at hc1
          simp only [Bool.and_eq_true, List.contains_iff_mem] at hc1
          exact .inl (hnot1 (.inr hc1.1.1))
        | put =>
          rw [hcc] at hc1
          simp only [Bool.and_eq_true, decide_eq_true_eq] at hc1
          exact .inl (hnot1 (.inl hc1.1.1))
        | pure =>
          rw [hcc] at hc1
          simp only [Bool.and_eq_true, decide_eq_true_eq] at hc1
          have := List.all_eq_true.1 hc1.2 (t, some j) hp
          simp only [hfj] at this
          cases this
        | store =>
          rw [hcc] at hc1
          simp only [Bool.and_eq_true, decide_eq_true_eq] at hc1
          have := List.all_eq_true.1 hc1.2 (t, some j) hp
          simp only [hfj, Bool.false_or, decide_eq_true_eq] at this
          exact .inr ⟨this, by rw [← hc1.1.1.1]; exact hunf⟩
    have hpre : PreP w P1 (cls.getD i .pre) w' := by
      cases hcc : cls.getD i .pre with
      | pre =>
        rw [hcc] at hc1
        simp only [Bool.and_eq_true, List.contains_iff_mem] at hc1
        exact hphase0 (hnot1 (.inr hc1.1.1))
      | put =>
        rw [hcc] at hc1
        simp only [Bool.and_eq_true, decide_eq_true_eq] at hc1
        exact hphase0 (hnot1 (.inl hc1.1.1))
      | pure => trivial
      | store =>
        rw [hcc] at hc1
        simp only [Bool.and_eq_true, decide_eq_true_eq] at hc1
        have hik := hc1.1.1.1
        have h8 : k1 ∈ C.getD i [] := by
          rcases (by simpa using hk2s : l.length ≤ k2 ∨ k1 ∈ C.getD k2 []) with h8 | h8
          · have := (List.getElem?_eq_some_iff.1 ho').1; omega
          · rw [hik]; exact h8
        have h9 := hC' k1 h8
        have h10 : WI L w' := h3
        simp only [WI] at h10
        rw [← hik, hunf, h9] at h10
        exact h10
    have hchain := chain_of (S.getD i []) (hob1 a'.eval w' ⟨fun _ => rfl, fun _ => rfl, fun _ => rfl⟩ hpre) (by
      intro p hp
      have hs := (hS1 i o ho').1 p hp
      have hsr := hsrc p hp
      obtain ⟨t, x⟩ := p
      cases x with
      | some j =>
        obtain ⟨hj, hjC⟩ := hs
        cases hl : l[j]? with
        | none => simp [hl] at hj
        | some oj =>
          rw [hl] at hj
          simp only [Option.map_some, Option.some.injEq] at hj
          exact h6 j oj t hl (hC' j hjC) hsr hj
      | none =>
        refine h7 t fun k ok hk hkL hkd => ?_
        have hik := hs k ok hk hkd
        have := hcl L h2 (k + 1) k (by omega) ok hk (h2 k ok hk hkL) i hik
        rw [hunf] at this
        cases this)
    -- the bits of the two that write
    have hbit : ∀ k, k ≠ i → (L.setIfInBounds i true).getD k false = L.getD k false := fun k hk => getD_set_ne false (fun h => hk h.symm)
    have hbit1 : (L.setIfInBounds i true).getD i false = true := by simp [hlt]
    -- what behind the step holds
    have hnext : ∀ v w'', StepP P1 P2 (cls.getD i .pre) w' w'' → (F.getD i .any).holds v w'' → I (L.setIfInBounds i true) (a'.put o.dst v) w'' := by
      intro v w'' hb hF
      -- the world's stage, and what of the facts stays
      have hst : WI (L.setIfInBounds i true) w'' ∧ ∀ (k : Nat) u, k ≠ i → (free.getD k false = false → (L.setIfInBounds i true).getD k1 false = false ∨ (k = k1 ∧ (L.setIfInBounds i true).getD k2 false = false)) → (F.getD k .any).holds u w' → (F.getD k .any).holds u w'' := by
        cases hcc : cls.getD i .pre with
        | pre =>
          rw [hcc] at hc1 hb
          simp only [Bool.and_eq_true, List.contains_iff_mem, decide_eq_true_eq] at hc1
          obtain ⟨⟨c1, c2⟩, c3⟩ := hc1
          have h8 := hnot1 (.inr c1)
          have h9 := hphase0 h8
          have h10 : L.getD k2 false = false := by
            rcases hb2 : L.getD k2 false with _ | _
            · rfl
            · rw [h21 hb2] at h8; cases h8
          refine ⟨?_, fun k u hk _ hu => (F.getD k .any).keep _ _ _ hu hb⟩
          show (if (L.setIfInBounds i true).getD k2 false then P2 w'' else if (L.setIfInBounds i true).getD k1 false then P1 w'' else Below w.heap.size w w'')
          rw [hbit k2 (Ne.symm c3), hbit k1 (Ne.symm c2), h8, h10]
          exact below_trans' h9 hb
        | pure =>
          rw [hcc] at hc1 hb
          simp only [Bool.and_eq_true, decide_eq_true_eq] at hc1
          obtain ⟨⟨c1, c2⟩, c3⟩ := hc1
          have hb' : w'' = w' := hb
          subst hb'
          refine ⟨?_, fun k u hk _ hu => hu⟩
          show (if (L.setIfInBounds i true).getD k2 false then P2 w'' else if (L.setIfInBounds i true).getD k1 false then P1 w'' else Below w.heap.size w w'')
          rw [hbit k2 (Ne.symm c2), hbit k1 (Ne.symm c1)]
          exact h3
        | put =>
          rw [hcc] at hc1 hb
          simp only [Bool.and_eq_true, decide_eq_true_eq] at hc1
          obtain ⟨⟨c1, c2⟩, _⟩ := hc1
          have h8 := hnot1 (.inl c1)
          have h10 : L.getD k2 false = false := by
            rcases hb2 : L.getD k2 false with _ | _
            · rfl
            · rw [h21 hb2] at h8; cases h8
          subst c1
          refine ⟨?_, fun k u hk hfr hu => ?_⟩
          · show (if (L.setIfInBounds i true).getD k2 false then P2 w'' else if (L.setIfInBounds i true).getD i false then P1 w'' else Below w.heap.size w w'')
            rw [hbit k2 (Ne.symm c2), hbit1, h10]
            exact hb
          · rcases hfk : free.getD k false with _ | _
            · rcases hfr hfk with this | this
              · rw [hbit1] at this; cases this
              · exact absurd this.1 hk
            · exact hfree k hfk _ _ _ hu
        | store =>
          rw [hcc] at hc1 hb
          simp only [Bool.and_eq_true, decide_eq_true_eq] at hc1
          obtain ⟨⟨⟨c1, c2⟩, _⟩, _⟩ := hc1
          have h8 : k1 ∈ C.getD i [] := by
            rcases (by simpa using hk2s : l.length ≤ k2 ∨ k1 ∈ C.getD k2 []) with h8 | h8
            · have := (List.getElem?_eq_some_iff.1 ho').1; omega
            · rw [c1]; exact h8
          have h9 := hC' k1 h8
          subst c1
          refine ⟨?_, fun k u hk hfr hu => ?_⟩
          · show (if (L.setIfInBounds i true).getD i false then P2 w'' else if (L.setIfInBounds i true).getD k1 false then P1 w'' else Below w.heap.size w w'')
            rw [hbit1]
            exact hb
          · rcases hfk : free.getD k false with _ | _
            · rcases hfr hfk with this | this
              · rw [hbit k1 (Ne.symm c2), h9] at this; cases this
              · rw [hbit1] at this; cases this.2
            · exact hfree k hfk _ _ _ hu
      refine ⟨by simpa using h1, ?_, hst.1, ?_, ?_, ?_, ?_⟩
      · intro k ok hk hkL e he hbd
        rcases getD_setB hkL with rfl | hkL
        · rw [hk] at ho'; cases ho'
          exact getD_set_true (hall e he hbd)
        · exact getD_set_true (h2 k ok hk hkL e he hbd)
      · cases o.dst <;> simp [Act.put, h4]
      · cases o.dst <;> simp [Act.put, h5]
      · intro k ok d hk hkL hkd hd
        rcases getD_setB hkL with rfl | hkL'
        · rw [hk] at ho'; cases ho'
          rw [hd, put_here _ _ _ (by rw [h4]; exact hD1 _ _ _ hk hd)]
          exact hF
        · by_cases hki : k = i
          · subst hki; rw [hunf] at hkL'; cases hkL'
          · rw [put_tmps _ _ _ _ (fun hc => hki (hD2 k i ok o d hk ho' hd hc))]
            refine hst.2 k _ hki hkd (h6 k ok d hk hkL' (fun h => ?_) hd)
            have hback : ∀ q, (L.setIfInBounds i true).getD q false = false → L.getD q false = false := fun q h11 => by
              by_cases hq : q = i
              · rw [hq, hbit1] at h11; cases h11
              · rwa [hbit q hq] at h11
            exact (hkd h).imp (hback _) (fun h12 => ⟨h12.1, hback _ h12.2⟩)
      · intro t ht
        rw [put_tmps _ _ _ _ (ht i o ho' (by simp [hlt]))]
        exact h7 t fun k ok hk hkL => ht k ok hk (getD_set_true hkL)
    have hwant : Region.wanted o (yielded l.toArray a'.tmps) = R.getD i true := by
      unfold GuardOb at hgd
      unfold Region.wanted
      cases hg : o.guard with
      | none => rw [hg] at hgd; simp only at hgd ⊢; exact hgd.symm
      | some gw =>
        obtain ⟨g, want⟩ := gw
        rw [hg] at hgd
        obtain ⟨hgC, og, dg, hog, hdg⟩ := (hS1 i o ho').2 g want hg
        obtain ⟨b, hb, hbw⟩ := hgd _ _ (h6 g og dg hog (hC' g hgC) (fun h => by
          rw [hg] at hc2
          simp only [h, Bool.false_or, Bool.or_eq_true, List.contains_iff_mem, decide_eq_true_eq] at hc2
          exact .inl (hnot1 hc2.symm)) hdg)
        have hy : yielded l.toArray a'.tmps g = some b := by
          have hb' : (a'.tmps[dg]?).getD undef = Value.bool b := by simpa using hb
          have hlt' : dg < a'.tmps.size := by rw [h4]; exact hD1 _ _ _ hog hdg
          have hb'' : a'.tmps[dg] = Value.bool b := by simpa [hlt'] using hb'
          simp [yielded, hog, hdg, hlt', hb'']
        simp only [hy]
        rw [← hbw]
        cases b <;> cases want <;> rfl
    unfold wpOp
    simp only [ho, hwant]
    by_cases hr : R.getD i true = true
    · rw [if_pos hr]
      rw [if_pos hr] at hchain
      refine .inl ?_
      unfold OpK at hchain
      unfold Oper.wp
      generalize (execOp a'.eval o).run P w' = r at hchain ⊢
      cases r with
      | ok n w1 =>
        cases n with
        | value v => exact hnext v w1 hchain.1 hchain.2
        | skip => exact hnext undef w1 hchain.1 hchain.2
        | enter f args =>
          refine Calls.mono hchain fun e w2 he => ?_
          obtain ⟨v, rfl, hb, hF⟩ := he
          exact hnext v w2 hb hF
        | _ => exact hchain.elim
      | halt x w1 => exact hchain.elim
    · rw [if_neg hr]
      rw [if_neg hr] at hchain
      refine hnext undef w' ?_ hchain
      cases hcc : cls.getD i .pre with
      | pre => exact Below.refl _ _
      | pure => exact rfl
      | put =>
        rw [hcc] at hc1
        simp only [Bool.and_eq_true] at hc1
        exact absurd hc1.2 hr
      | store =>
        rw [hcc] at hc1
        simp only [Bool.and_eq_true] at hc1
        exact absurd hc1.1.2 hr
  · -- the end
    intro L a' w' hI hr
    obtain ⟨h1, h2, h3, h4, h5, h6, h7⟩ := hI
    have hallL : ∀ n (k : Nat), k < n → k < l.length → L.getD k false = true := by
      intro n
      induction n with
      | zero => intro k hk; omega
      | succ n ih =>
        intro k hk hkl
        rcases hb : L.getD k false with _ | _
        · exfalso
          have hin : k ∈ Region.ready .any l.toArray L := by
            rw [mem_ready]
            have hok' : l[k]? = some l[k] := List.getElem?_eq_getElem hkl
            refine ⟨?_, l[k], by simp, fun e he hbd => ?_⟩
            · have : k < L.size := by rw [h1]; exact hkl
              simp only [Array.getD_eq_getD_getElem?, this, Array.getElem?_eq_getElem, Option.getD_some] at hb ⊢
              exact hb
            · have hlt := (hC1 k _ hok').1 e he hbd
              exact ih e.on (by omega) (by omega)
          rw [hr] at hin
          cases hin
        · rfl
    have hfin : if k2 < l.length then P2 w' else P1 w' := by
      have h9 : WI L w' := h3
      simp only [WI] at h9
      rw [hallL (k1 + 1) k1 (by omega) hk1l] at h9
      split
      · rename_i hk2
        rw [hallL (k2 + 1) k2 (by omega) hk2] at h9
        exact h9
      · rename_i hk2
        have : L.getD k2 false = false := by
          have h8 : ¬ k2 < L.size := by omega
          simp [h8]
        rw [this] at h9
        exact h9
    refine hend a' w' hfin h4 h5 (fun i o d ho hfi hd => h6 i o d ho (hallL (i + 1) i (by omega) (List.getElem?_eq_some_iff.1 ho).1) (fun h => by rw [hfi] at h; cases h) hd) fun t ht => h7 t fun k o hk _ => ht k o hk
  · -- the start
    have hno : ∀ k, (Array.replicate l.toArray.size false).getD k false = false := fun k => by
      by_cases h : k < l.length <;> simp [h]
    refine ⟨by simp, fun k o hk hkL => ?_, ?_, rfl, rfl, fun k o d hk hkL _ => ?_, fun t _ => rfl⟩
    · exfalso
      have : k < l.length := (List.getElem?_eq_some_iff.1 hk).1
      simp [this] at hkL
    · show (if _ then P2 _ else if _ then P1 _ else Below w.heap.size w _)
      rw [if_neg (by rw [hno]; decide), if_neg (by rw [hno]; decide)]
      exact ⟨rfl, rfl, rfl, Nat.le_refl _, fun _ _ => rfl⟩
    · exfalso
      have : k < l.length := (List.getElem?_eq_some_iff.1 hk).1
      simp [this] at hkL
  · refine Nat.le_trans List.countP_le_length ?_
    simp

/-- The same, operation by operation. -/
def ObAllP (P : Program) (F : List Fact) (tm : Array Value) (w : World) (P1 P2 : World → Prop) : Nat → List Oper → List Src → List Bool → List Cls → Prop
  | _, [], _, _, _ => True
  | i, o :: l, S, R, c => (ObP P F tm w P1 P2 (c.headD .pre) (R.headD true) (S.headD []) i o ∧ GuardOb F (R.headD true) o) ∧ ObAllP P F tm w P1 P2 (i + 1) l S.tail R.tail c.tail

theorem ObAllP.get {P : Program} {F : List Fact} {tm : Array Value} {w : World} {P1 P2 : World → Prop} (l : List Oper) : ∀ (k : Nat) (S : List Src) (R : List Bool) (c : List Cls), ObAllP P F tm w P1 P2 k l S R c → ∀ (i : Nat) o, l[i]? = some o →
    ObP P F tm w P1 P2 (c.getD i .pre) (R.getD i true) (S.getD i []) (k + i) o ∧ GuardOb F (R.getD i true) o := by
  induction l with
  | nil => intro k S R c _ i o ho; simp at ho
  | cons x l ih =>
    intro k S R c h i o ho
    obtain ⟨h1, h2⟩ := h
    cases i with
    | zero =>
      simp only [List.getElem?_cons_zero, Option.some.injEq] at ho
      subst ho
      cases S <;> cases R <;> cases c <;> simpa using h1
    | succ i =>
      simp only [List.getElem?_cons_succ] at ho
      have h3 := ih (k + 1) S.tail R.tail c.tail h2 i o ho
      rw [show k + 1 + i = k + (i + 1) from by omega] at h3
      cases S <;> cases R <;> cases c <;> simpa using h3

def FreeAll : List Fact → List Bool → Prop
  | f :: F, b :: bs => (b = true → f.Free) ∧ FreeAll F bs
  | _, [] => True
  | [], _ => True
theorem FreeAll.get (F : List Fact) : ∀ (bs : List Bool), FreeAll F bs → ∀ i, bs.getD i false = true → (F.getD i .any).Free := by
  induction F with
  | nil => intro bs _ i _; simp; exact Fact.free_any
  | cons f F ih =>
    intro bs h i hi
    cases bs with
    | nil => simp at hi
    | cons b bs =>
      cases i with
      | zero => simpa using h.1 (by simpa using hi)
      | succ i => simpa using ih bs h.2 i (by simpa using hi)

theorem region_put {P : Program} {Q : Exit → Act → World → Prop} {id : Nat} {a : Act} {w : World} (l : List Oper) (F : List Fact) (S : List Src) (R : List Bool) (cls : List Cls) (free : List Bool) (k1 k2 : Nat) (P1 P2 : World → Prop)
    (hm : P.follows .mixedOrders = true) (hok : regionOk l a.tmps.size S = true) (hcls : clsOk l (clos l) S cls free R k1 k2 = true) (hfree : FreeAll F free) (hob : ObAllP P F a.tmps w P1 P2 0 l S R cls)
    (hend : ∀ a' w', (if k2 < l.length then P2 w' else P1 w') → a'.tmps.size = a.tmps.size → a'.defers = a.defers →
      (∀ i o d, l[i]? = some o → free.getD i false = true → o.dst = some d → (F.getD i .any).holds (a'.tmps.getD d undef) w') →
      (∀ t, (∀ (i : Nat) o, l[i]? = some o → o.dst ≠ some t) → a'.tmps.getD t undef = a.tmps.getD t undef) → Q .normal a' w') :
    (Code.region id l.toArray true).wp P Q a w :=
  region_put_facts l F S R cls free k1 k2 P1 P2 hm hok hcls (hfree.get F free) (fun i o ho => by
    have := hob.get l 0 S R cls i o ho
    rw [Nat.zero_add] at this
    exact this) hend
end Go.Proofs.Ytihclbiohljmlaa
