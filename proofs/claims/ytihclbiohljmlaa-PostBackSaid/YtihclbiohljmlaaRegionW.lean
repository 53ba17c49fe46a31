/- A region that draws its order and holds ONE operation that writes to what the region itself made (an append in place): XRegion's lemma, with the facts that this one operation uses up dropped behind it. -/
import Derived.Test.YtihclbiohljmlaaOps3
namespace Go.Proofs.Ytihclbiohljmlaa
open Go.RowKit
set_option linter.unusedVariables false

/-- The fact stays while the memory below B stays. -/
def Fact.Firm (B : Nat) (F : Fact) : Prop := ∀ v w w', F.holds v w → Below B w w' → F.holds v w'
theorem Fact.firm_any (B : Nat) : Fact.any.Firm B := fun _ _ _ _ _ => trivial
theorem Fact.firm_is (B : Nat) (v : Value) : (Fact.is v).Firm B := fun _ _ _ h _ => h

/-- What is asked of operation i; operation k is the one that writes. -/
def ObW (P : Program) (F : List Fact) (tm : Array Value) (w : World) (k : Nat) (runs : Bool) (S : Src) (i : Nat) (o : Oper) : Prop :=
  ∀ (ρ : Operand → Value) (w' : World), Consts ρ → Below w.heap.size w w' →
    Chain F tm ρ w' S (if runs then OpK P o ρ w' fun v w'' => Below (if i = k then w.heap.size else w'.heap.size) w' w'' ∧ (F.getD i .any).holds v w'' else (F.getD i .any).holds undef w')

/-- The dead: used up by operation k, ahead of it, and by what is ahead of it. -/
def deadOk (l : List Oper) (C : List (List Nat)) (S : List Src) (k : Nat) (D : List Nat) : Bool :=
  (D.all fun d => (C.getD k []).contains d) &&
  l.zipIdx.all fun (o, i) => ((S.getD i []).all fun p => match p.2 with
    | some j => !D.contains j || decide (i = k) || (C.getD k []).contains i
    | none => true) && (match o.guard with | none => true | some (g, _) => !D.contains g)

/-- Who must be firm: who is not dead, not k and not behind k. -/
def firmFor (C : List (List Nat)) (n k : Nat) (D : List Nat) : List Nat := (List.range n).filter fun i => !D.contains i && decide (i ≠ k) && !(C.getD i []).contains k

theorem region_weak_facts {P : Program} {Q : Exit → Act → World → Prop} {id : Nat} {a : Act} {w : World} (l : List Oper) (F : List Fact) (S : List Src) (R : List Bool) (kw : Nat) (D : List Nat)
    (hm : P.follows .mixedOrders = true) (hok : regionOk l a.tmps.size S = true) (hdk : deadOk l (clos l) S kw D = true) (hfirm : ∀ i ∈ firmFor (clos l) l.length kw D, (F.getD i .any).Firm w.heap.size)
    (hob : ∀ i o, l[i]? = some o → ObW P F a.tmps w kw (R.getD i true) (S.getD i []) i o ∧ GuardOb F (R.getD i true) o)
    (hend : ∀ a' w', Below w.heap.size w w' → a'.tmps.size = a.tmps.size → a'.defers = a.defers →
      (∀ i o d, l[i]? = some o → i ∉ D → o.dst = some d → (F.getD i .any).holds (a'.tmps.getD d undef) w') →
      (∀ t, (∀ (i : Nat) o, l[i]? = some o → o.dst ≠ some t) → a'.tmps.getD t undef = a.tmps.getD t undef) → Q .normal a' w') :
    (Code.region id l.toArray true).wp P Q a w := by
  simp only [regionOk, Bool.and_eq_true] at hok
  obtain ⟨⟨hC, hS⟩, hD⟩ := hok
  simp only [deadOk, Bool.and_eq_true] at hdk
  obtain ⟨hdk1, hdk2⟩ := hdk
  generalize clos l = C at hC hS hdk1 hdk2 hfirm
  have hC1 : ∀ (i : Nat) o, l[i]? = some o → (∀ e ∈ o.after, Region.binds .any e = true → e.on < i) ∧
      ∀ j ∈ C.getD i [], ∃ e ∈ o.after, Region.binds .any e = true ∧ (e.on = j ∨ j ∈ C.getD e.on []) := by
    intro i o ho
    have := List.all_eq_true.1 hC (o, i) (by rw [List.mem_zipIdx_iff_getElem?]; exact ho)
    simp only [Bool.and_eq_true, List.all_eq_true, List.any_eq_true, Bool.or_eq_true, Bool.not_eq_true', decide_eq_true_eq, beq_iff_eq, List.contains_iff_mem, Array.mem_toList_iff] at this
    refine ⟨fun e he hb => (this.1 e he).resolve_left (by simp [hb]), fun j hj => ?_⟩
    obtain ⟨e, he, hb, h⟩ := this.2 j hj
    exact ⟨e, he, hb, h⟩
  let closed : Array Bool → Prop := fun L => ∀ (k : Nat) o, l[k]? = some o → L.getD k false = true → ∀ e ∈ o.after, Region.binds .any e = true → L.getD e.on false = true
  have hcl : ∀ L, closed L → ∀ n (i : Nat), i < n → ∀ o, l[i]? = some o → (∀ e ∈ o.after, Region.binds .any e = true → L.getD e.on false = true) → ∀ j ∈ C.getD i [], L.getD j false = true := by
    intro L hL n
    induction n with
    | zero => intro i hi; omega
    | succ n ih =>
      intro i hi o ho hall j hj
      obtain ⟨e, he, hb, h | h⟩ := (hC1 i o ho).2 j hj
      · rw [← h]; exact hall e he hb
      · have hlt := (hC1 i o ho).1 e he hb
        have hle : i < l.length := (List.getElem?_eq_some_iff.1 ho).1
        have hoe : l[e.on]? = some (l[e.on]'(by omega)) := List.getElem?_eq_getElem (by omega)
        exact ih e.on (by omega) _ hoe (fun e' he' hb' => hL _ _ hoe (hall e he hb) e' he' hb') j h
  have hS1 : ∀ (i : Nat) o, l[i]? = some o → (∀ p ∈ S.getD i [], match p.2 with
      | some j => ((l[j]?).map (·.dst)) = some (some p.1) ∧ j ∈ C.getD i []
      | none => ∀ (j : Nat) x, l[j]? = some x → x.dst = some p.1 → i ∈ C.getD j []) ∧ (∀ g want, o.guard = some (g, want) → g ∈ C.getD i [] ∧ ∃ og dg, l[g]? = some og ∧ og.dst = some dg) := by
    intro i o ho
    have := List.all_eq_true.1 hS (o, i) (by rw [List.mem_zipIdx_iff_getElem?]; exact ho)
    simp only [Bool.and_eq_true] at this
    refine ⟨fun p hp => ?_, fun g want hg => ?_⟩
    · have h2 := List.all_eq_true.1 this.1 p hp
      obtain ⟨t, x⟩ := p
      cases x with
      | some j => simp only [Bool.and_eq_true, beq_iff_eq, List.contains_iff_mem] at h2; exact h2
      | none =>
        intro j x hj hx
        have h3 := List.all_eq_true.1 h2 (x, j) (by rw [List.mem_zipIdx_iff_getElem?]; exact hj)
        simp only [Bool.or_eq_true, List.contains_iff_mem] at h3
        rcases h3 with h3 | h3
        · simp [hx] at h3
        · exact h3
    · have h2 := this.2
      rw [hg] at h2
      simp only [Bool.and_eq_true, List.contains_iff_mem] at h2
      refine ⟨h2.1, ?_⟩
      have h3 := h2.2
      cases hl : l[g]? with
      | none => simp [hl] at h3
      | some og =>
        rw [hl] at h3
        simp only [Option.bind_some] at h3
        obtain ⟨dg, hdg⟩ := Option.isSome_iff_exists.1 h3
        exact ⟨og, dg, rfl, hdg⟩
  simp only [dstOk, Bool.and_eq_true, decide_eq_true_eq] at hD
  have hD1 : ∀ (i : Nat) o d, l[i]? = some o → o.dst = some d → d < a.tmps.size := by
    intro i o d ho hd
    have := List.all_eq_true.1 hD.1 o (List.mem_of_getElem? ho)
    rw [hd] at this
    simpa using this
  have hD2 : ∀ (i j : Nat) o o' d, l[i]? = some o → l[j]? = some o' → o.dst = some d → o'.dst = some d → i = j := by
    have key : ∀ (m : List Oper), (m.filterMap (·.dst)).Nodup → ∀ (i j : Nat) o o' d, m[i]? = some o → m[j]? = some o' → o.dst = some d → o'.dst = some d → i = j := by
      intro m
      induction m with
      | nil => intro _ i j o o' d hi; simp at hi
      | cons x m ih =>
        intro hn i j o o' d hi hj hd hd'
        have hmem : ∀ (k : Nat) o, m[k]? = some o → o.dst = some d → d ∈ m.filterMap (·.dst) := fun k o hk hd => List.mem_filterMap.2 ⟨o, List.mem_of_getElem? hk, hd⟩
        have hn' : (m.filterMap (·.dst)).Nodup := by
          rw [List.filterMap_cons] at hn
          cases hx : x.dst with
          | none => simpa [hx] using hn
          | some e => rw [hx] at hn; exact (List.nodup_cons.1 hn).2
        cases i with
        | zero =>
          cases j with
          | zero => rfl
          | succ j =>
            simp only [List.getElem?_cons_zero, Option.some.injEq] at hi
            subst hi
            simp only [List.getElem?_cons_succ] at hj
            rw [List.filterMap_cons, hd] at hn
            exact absurd (hmem j o' hj hd') (List.nodup_cons.1 hn).1
        | succ i =>
          simp only [List.getElem?_cons_succ] at hi
          cases j with
          | zero =>
            simp only [List.getElem?_cons_zero, Option.some.injEq] at hj
            subst hj
            rw [List.filterMap_cons, hd'] at hn
            exact absurd (hmem i o hi hd) (List.nodup_cons.1 hn).1
          | succ j =>
            simp only [List.getElem?_cons_succ] at hj
            rw [ih hn' i j o o' d hi hj hd hd']
    exact key l hD.2
  let I : Array Bool → Act → World → Prop := fun L a' w' =>
    L.size = l.length ∧ closed L ∧ Below w.heap.size w w' ∧ a'.tmps.size = a.tmps.size ∧ a'.defers = a.defers ∧
    (∀ (k : Nat) o d, l[k]? = some o → L.getD k false = true → (k ∈ D → L.getD kw false = false) → o.dst = some d → (F.getD k .any).holds (a'.tmps.getD d undef) w') ∧
    (∀ t, (∀ (k : Nat) o, l[k]? = some o → L.getD k false = true → o.dst ≠ some t) → a'.tmps.getD t undef = a.tmps.getD t undef)
  refine wp_region_any hm (wpAny_inv I (fun L a' w' h => h.1) ?_ ?_ _ _ _ _ ?_ ?_)
  · -- one step
    intro L a' w' i hI hi
    obtain ⟨h1, h2, h3, h4, h5, h6, h7⟩ := hI
    obtain ⟨hun, o, ho, hall⟩ := mem_ready.1 hi
    have ho' : l[i]? = some o := by simpa using ho
    have hlt : i < L.size := by rw [h1]; exact (List.getElem?_eq_some_iff.1 ho').1
    have hunf : L.getD i false = false := by simpa [hlt] using hun
    obtain ⟨hob1, hgd⟩ := hob i o ho'
    have hkD : ∀ j ∈ D, j ∈ C.getD kw [] := fun j hj => by simpa using List.all_eq_true.1 hdk1 j hj
    have hdk3 := List.all_eq_true.1 hdk2 (o, i) (by rw [List.mem_zipIdx_iff_getElem?]; exact ho')
    simp only [Bool.and_eq_true] at hdk3
    have hkdone : (i = kw ∨ i ∈ C.getD kw []) → L.getD kw false = false := by
      rintro (rfl | hik)
      · exact hunf
      · rcases hb : L.getD kw false with _ | _
        · rfl
        · rcases hl : l[kw]? with _ | ok
          · exfalso
            have : ¬ kw < l.length := fun h => by rw [List.getElem?_eq_getElem h] at hl; cases hl
            have h8 : ¬ kw < L.size := by omega
            simp [h8] at hb
          · have := hcl L h2 (kw + 1) kw (by omega) ok hl (h2 kw ok hl hb) i hik
            rw [hunf] at this
            cases this
    have hC' := hcl L h2 (i + 1) i (by omega) o ho' hall
    have hchain := chain_of (S.getD i []) (hob1 a'.eval w' ⟨fun _ => rfl, fun _ => rfl, fun _ => rfl⟩ h3) (by
      intro p hp
      have hs := (hS1 i o ho').1 p hp
      obtain ⟨t, x⟩ := p
      cases x with
      | some j =>
        obtain ⟨hj, hjC⟩ := hs
        cases hl : l[j]? with
        | none => simp [hl] at hj
        | some oj =>
          rw [hl] at hj
          simp only [Option.map_some, Option.some.injEq] at hj
          refine h6 j oj t hl (hC' j hjC) (fun hjD => hkdone ?_) hj
          have h9 := List.all_eq_true.1 hdk3.1 (t, some j) hp
          simp only [Bool.or_eq_true, Bool.not_eq_true', decide_eq_true_eq, List.contains_iff_mem] at h9
          rcases h9 with (h9 | h9) | h9
          · simp [hjD] at h9
          · exact .inl h9
          · exact .inr h9
      | none =>
        refine h7 t fun k ok hk hkL hkd => ?_
        have hik := hs k ok hk hkd
        have := hcl L h2 (k + 1) k (by omega) ok hk (h2 k ok hk hkL) i hik
        rw [hunf] at this
        cases this)
    -- what behind the step holds
    have hnext : ∀ v w'', Below (if i = kw then w.heap.size else w'.heap.size) w' w'' → (F.getD i .any).holds v w'' → I (L.setIfInBounds i true) (a'.put o.dst v) w'' := by
      intro v w'' hb hF
      have hb0 : Below w.heap.size w' w'' := by
        split at hb
        · exact hb
        · exact hb.mono h3.size
      refine ⟨by simpa using h1, ?_, h3.trans hb0, ?_, ?_, ?_, ?_⟩
      · intro k ok hk hkL e he hbd
        rcases getD_setB hkL with rfl | hkL
        · rw [hk] at ho'; cases ho'
          exact getD_set_true (hall e he hbd)
        · exact getD_set_true (h2 k ok hk hkL e he hbd)
      · cases o.dst <;> simp [Act.put, h4]
      · cases o.dst <;> simp [Act.put, h5]
      · intro k ok d hk hkL hkd hd
        rcases getD_setB hkL with rfl | hkL'
        · rw [hk] at ho'; cases ho'
          rw [hd, put_here _ _ _ (by rw [h4]; exact hD1 _ _ _ hk hd)]
          exact hF
        · by_cases hki : k = i
          · subst hki; rw [hunf] at hkL'; cases hkL'
          · rw [put_tmps _ _ _ _ (fun hc => hki (hD2 k i ok o d hk ho' hd hc))]
            by_cases hikw : i = kw
            · have hnD : k ∉ D := fun hkD' => by
                have := hkd hkD'
                rw [← hikw] at this
                simp [hlt] at this
              have hnC : kw ∉ C.getD k [] := fun hc => by
                have := hcl L h2 (k + 1) k (by omega) ok hk (h2 k ok hk hkL') kw hc
                rw [← hikw, hunf] at this
                cases this
              have hkl : k < l.length := (List.getElem?_eq_some_iff.1 hk).1
              have hf := hfirm k (by
                unfold firmFor
                simp only [List.mem_filter, List.mem_range, Bool.and_eq_true, Bool.not_eq_true', decide_eq_true_eq]
                refine ⟨hkl, ⟨?_, fun h => hki (h.trans hikw.symm)⟩, ?_⟩
                · simpa using hnD
                · simpa using hnC)
              exact hf _ _ _ (h6 k ok d hk hkL' (fun h => absurd h hnD) hd) hb0
            · rw [if_neg hikw] at hb
              exact (F.getD k .any).keep _ _ _ (h6 k ok d hk hkL' (fun h => by
                have h10 := hkd h
                rw [getD_set_ne false hikw] at h10
                exact h10) hd) hb
      · intro t ht
        rw [put_tmps _ _ _ _ (ht i o ho' (by simp [hlt]))]
        exact h7 t fun k ok hk hkL => ht k ok hk (getD_set_true hkL)
    have hwant : Region.wanted o (yielded l.toArray a'.tmps) = R.getD i true := by
      unfold GuardOb at hgd
      unfold Region.wanted
      cases hg : o.guard with
      | none => rw [hg] at hgd; simp only at hgd ⊢; exact hgd.symm
      | some gw =>
        obtain ⟨g, want⟩ := gw
        rw [hg] at hgd
        obtain ⟨hgC, og, dg, hog, hdg⟩ := (hS1 i o ho').2 g want hg
        have hgD : g ∉ D := by
          have h11 := hdk3.2
          rw [hg] at h11
          simpa using h11
        obtain ⟨b, hb, hbw⟩ := hgd _ _ (h6 g og dg hog (hC' g hgC) (fun h => absurd h hgD) hdg)
        have hy : yielded l.toArray a'.tmps g = some b := by
          have hb' : (a'.tmps[dg]?).getD undef = Value.bool b := by simpa using hb
          have hlt' : dg < a'.tmps.size := by rw [h4]; exact hD1 _ _ _ hog hdg
          have hb'' : a'.tmps[dg] = Value.bool b := by simpa [hlt'] using hb'
          simp [yielded, hog, hdg, hlt', hb'']
        simp only [hy]
        rw [← hbw]
        cases b <;> cases want <;> rfl
    unfold wpOp
    simp only [ho, hwant]
    by_cases hr : R.getD i true = true
    · rw [if_pos hr]
      rw [if_pos hr] at hchain
      refine .inl ?_
      unfold OpK at hchain
      unfold Oper.wp
      generalize (execOp a'.eval o).run P w' = r at hchain ⊢
      cases r with
      | ok n w1 =>
        cases n with
        | value v => exact hnext v w1 hchain.1 hchain.2
        | skip => exact hnext undef w1 hchain.1 hchain.2
        | enter f args =>
          refine Calls.mono hchain fun e w2 he => ?_
          obtain ⟨v, rfl, hb, hF⟩ := he
          exact hnext v w2 hb hF
        | _ => exact hchain.elim
      | halt x w1 => exact hchain.elim
    · rw [if_neg hr]
      rw [if_neg hr] at hchain
      exact hnext undef w' (by split <;> exact Below.refl _ _) hchain
  · -- the end
    intro L a' w' hI hr
    obtain ⟨h1, h2, h3, h4, h5, h6, h7⟩ := hI
    have hallL : ∀ n (k : Nat), k < n → k < l.length → L.getD k false = true := by
      intro n
      induction n with
      | zero => intro k hk; omega
      | succ n ih =>
        intro k hk hkl
        rcases hb : L.getD k false with _ | _
        · exfalso
          have hin : k ∈ Region.ready .any l.toArray L := by
            rw [mem_ready]
            have hok' : l[k]? = some l[k] := List.getElem?_eq_getElem hkl
            refine ⟨?_, l[k], by simp, fun e he hbd => ?_⟩
            · have : k < L.size := by rw [h1]; exact hkl
              simp only [Array.getD_eq_getD_getElem?, this, Array.getElem?_eq_getElem, Option.getD_some] at hb ⊢
              exact hb
            · have hlt := (hC1 k _ hok').1 e he hbd
              exact ih e.on (by omega) (by omega)
          rw [hr] at hin
          cases hin
        · rfl
    refine hend a' w' h3 h4 h5 (fun i o d ho hiD hd => h6 i o d ho (hallL (i + 1) i (by omega) (List.getElem?_eq_some_iff.1 ho).1) (fun h => absurd h hiD) hd) fun t ht => h7 t fun k o hk _ => ht k o hk
  · -- the start
    refine ⟨by simp, fun k o hk hkL => ?_, ⟨rfl, rfl, rfl, Nat.le_refl _, fun _ _ => rfl⟩, rfl, rfl, fun k o d hk hkL _ => ?_, fun t _ => rfl⟩
    · exfalso
      have : k < l.length := (List.getElem?_eq_some_iff.1 hk).1
      simp [this] at hkL
    · exfalso
      have : k < l.length := (List.getElem?_eq_some_iff.1 hk).1
      simp [this] at hkL
  · refine Nat.le_trans List.countP_le_length ?_
    simp


/-- The same, operation by operation. -/
def ObAllW (P : Program) (F : List Fact) (tm : Array Value) (w : World) (kw : Nat) : Nat → List Oper → List Src → List Bool → Prop
  | _, [], _, _ => True
  | i, o :: l, S, R => (ObW P F tm w kw (R.headD true) (S.headD []) i o ∧ GuardOb F (R.headD true) o) ∧ ObAllW P F tm w kw (i + 1) l S.tail R.tail

theorem ObAllW.get {P : Program} {F : List Fact} {tm : Array Value} {w : World} {kw : Nat} (l : List Oper) : ∀ (k : Nat) (S : List Src) (R : List Bool), ObAllW P F tm w kw k l S R → ∀ (i : Nat) o, l[i]? = some o →
    ObW P F tm w kw (R.getD i true) (S.getD i []) (k + i) o ∧ GuardOb F (R.getD i true) o := by
  induction l with
  | nil => intro k S R _ i o ho; simp at ho
  | cons x l ih =>
    intro k S R h i o ho
    obtain ⟨h1, h2⟩ := h
    cases i with
    | zero =>
      simp only [List.getElem?_cons_zero, Option.some.injEq] at ho
      subst ho
      cases S <;> cases R <;> simpa using h1
    | succ i =>
      simp only [List.getElem?_cons_succ] at ho
      have h3 := ih (k + 1) S.tail R.tail h2 i o ho
      rw [show k + 1 + i = k + (i + 1) from by omega] at h3
      cases S <;> cases R <;> simpa using h3

theorem region_weak {P : Program} {Q : Exit → Act → World → Prop} {id : Nat} {a : Act} {w : World} (l : List Oper) (F : List Fact) (S : List Src) (R : List Bool) (kw : Nat) (D : List Nat)
    (hm : P.follows .mixedOrders = true) (hok : regionOk l a.tmps.size S = true) (hdk : deadOk l (clos l) S kw D = true) (hfirm : ∀ i ∈ firmFor (clos l) l.length kw D, (F.getD i .any).Firm w.heap.size) (hob : ObAllW P F a.tmps w kw 0 l S R)
    (hend : ∀ a' w', Below w.heap.size w w' → a'.tmps.size = a.tmps.size → a'.defers = a.defers →
      (∀ i o d, l[i]? = some o → i ∉ D → o.dst = some d → (F.getD i .any).holds (a'.tmps.getD d undef) w') →
      (∀ t, (∀ (i : Nat) o, l[i]? = some o → o.dst ≠ some t) → a'.tmps.getD t undef = a.tmps.getD t undef) → Q .normal a' w') :
    (Code.region id l.toArray true).wp P Q a w :=
  region_weak_facts l F S R kw D hm hok hdk hfirm (fun i o ho => by
    have := hob.get l 0 S R i o ho
    rw [Nat.zero_add] at this
    exact this) hend
end Go.Proofs.Ytihclbiohljmlaa
