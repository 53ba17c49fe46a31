/- Own rows in a region that draws its order and writes to one of them. -/
import Derived.Test.YtihclbiohljmlaaRegionW
namespace Go.Proofs.Ytihclbiohljmlaa
open Go.RowKit
set_option linter.unusedVariables false

theorem World.ownsRow.below {w w' : World} {base : Nat} {e : TypeId} {size n : Nat} {v : Value} {xs : List Value} (h : w.ownsRow base e size v n xs) (hb : Below w.heap.size w w') : w'.ownsRow base e size v n xs := by
  refine ⟨h.1, ?_⟩
  rcases h.2 with hn | ⟨g, cap, cur, hv, hbg, hg, rest⟩
  · exact .inl hn
  · exact .inr ⟨g, cap, cur, hv, hbg, by rw [hb.block g (Array.getElem?_eq_some_iff.1 hg).1]; exact hg, rest⟩

/-- An empty row, made at or above B. -/
def Fact.emptyAt (B : Nat) (e : TypeId) : Fact :=
  ⟨fun x w => ∃ g, x = .slice (some ⟨g, 0, none⟩) 0 0 ∧ B ≤ g ∧ w.heap[g]? = some (.cells #[] e (0, 0)), fun v w w' ⟨g, h1, h0, h2⟩ hb => ⟨g, h1, h0, by
    have hlt : g < w.heap.size := (Array.getElem?_eq_some_iff.1 h2).1
    rw [hb.block g hlt]; exact h2⟩⟩
/-- An own row, made at or above B. -/
def Fact.own (B : Nat) (e : TypeId) (n : Nat) (xs : List Value) : Fact :=
  ⟨fun x w => w.ownsRow B e 1 x n xs, fun _ _ _ h hb => World.ownsRow.below h hb⟩

def AllFirm (F : List Fact) (B : Nat) : List Nat → Prop
  | [] => True
  | i :: r => (F.getD i .any).Firm B ∧ AllFirm F B r
theorem AllFirm.get {F : List Fact} {B : Nat} (l : List Nat) (h : AllFirm F B l) : ∀ i ∈ l, (F.getD i .any).Firm B := by
  induction l with
  | nil => intro i hi; cases hi
  | cons j l ih =>
    intro i hi
    rcases List.mem_cons.1 hi with rfl | hi
    · exact h.1
    · exact ih h.2 i hi
theorem firm_list {F : List Fact} {B : Nat} {m l : List Nat} (e : m = l) (h : AllFirm F B l) : ∀ i ∈ m, (F.getD i .any).Firm B := by subst e; exact h.get

section
variable {P : Program} {o : Oper} {ρ : Operand → Value} {w : World} {K : Value → World → Prop}
theorem opk_append0_own {t e : TypeId} {i : TypeInfo} {z : Value} {bytes base : Nat} (ht : P.underlying t = some (.slice e)) (hi : P.info? e = some i) (hz : i.zero = some z) (hsize : i.size = 1) (hby : i.bytes = bytes) (hzs : z.cells.size = 1)
    {s x : Operand} (h : o.op = .call { callee := .builtin .append, args := #[s, x], argTypes := #[t, t] })
    {g : Nat} (hs : ρ s = .slice (some ⟨g, 0, none⟩) 0 0) (hg : base ≤ g) (hgh : w.heap[g]? = some (.cells #[] e (0, 0))) {A : Option Addr} {n c : Nat} {xs : List Value} (hx : ρ x = .slice A n c) (hsl : Sl w A n c xs)
    (h63 : n ≤ maxLen) (hbytes : n * bytes ≤ 140737488355328)
    (hK : ∀ v w', Below w.heap.size w w' → w'.ownsRow base e 1 v n xs → K v w') : OpK P o ρ w K := by
  obtain ⟨A', c', w', hr, h1, h2⟩ := run_append0 (P := P) (ty := o.type) (g := g) ht hi hz hsize hby hsl h63 hbytes
  have hlt : g < w.heap.size := (Array.getElem?_eq_some_iff.1 hgh).1
  have hown : w.ownsRow base e 1 (.slice (some ⟨g, 0, none⟩) 0 0) 0 [] := ⟨rfl, .inr ⟨g, 0, #[], rfl, hg, hgh, Nat.le_refl _, Nat.zero_le _, rfl, rfl⟩⟩
  obtain ⟨v2, w2, hr2, ho2, _, _⟩ := run_append_sl (P := P) w base t o.type e i z bytes ht hi hz hsize hby hzs _ 0 [] hown A n c xs hsl (by omega) (by rw [Nat.zero_add]; exact hbytes) (by omega)
  rw [hr] at hr2
  injection hr2 with e1 e2
  subst e1 e2
  rw [Nat.zero_add, List.nil_append] at ho2
  refine opk_run (v := .slice A' n c') (w' := w') ?_ (hK _ _ h1 ho2)
  unfold execOp
  simp only [h, resolve, invoke, builtin, Sem.run_bind, Sem.run_pure, Result.andThen_ok, List.map_toArray, List.map_cons, List.map_nil, hs, hx, hr]
end
end Go.Proofs.Ytihclbiohljmlaa
