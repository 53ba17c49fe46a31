/- Runs of bytes: what they are, what they tell, how Encode makes them. No program in sight. -/
import Derived.Test.YtcmmgehghlaofaaBase
namespace Go.Proofs.Ytcmmgehghlaofaa
set_option linter.unusedVariables false

inductive Run where
  | rep (c n : Nat)
  | lit (l : List Nat)
def Run.ok : Run → Prop
  | .rep c n => 3 ≤ n ∧ n ≤ 130 ∧ c < 256
  | .lit l => 1 ≤ l.length ∧ l.length ≤ 128 ∧ ∀ x ∈ l, x < 256
def Run.bytes : Run → List Nat
  | .rep c n => [n - 3, c]
  | .lit l => (256 - l.length) :: l
def Run.told : Run → List Nat
  | .rep c n => List.replicate n c
  | .lit l => l
def runsB (rs : List Run) : List Nat := rs.flatMap Run.bytes
def runsT (rs : List Run) : List Nat := rs.flatMap Run.told
def runsOk (rs : List Run) : Prop := ∀ r ∈ rs, r.ok

theorem runsB_append (a b : List Run) : runsB (a ++ b) = runsB a ++ runsB b := by simp [runsB]
theorem runsT_append (a b : List Run) : runsT (a ++ b) = runsT a ++ runsT b := by simp [runsT]
theorem runsOk_append {a b : List Run} (ha : runsOk a) (hb : runsOk b) : runsOk (a ++ b) := fun r hr => (List.mem_append.1 hr).elim (ha r) (hb r)
theorem Run.byte {r : Run} (h : r.ok) : ∀ x ∈ r.bytes, x < 256 := by
  cases r with
  | rep c n =>
    obtain ⟨h1, h2, h3⟩ := h
    intro x hx
    simp only [Run.bytes, List.mem_cons, List.not_mem_nil, or_false] at hx
    omega
  | lit l =>
    obtain ⟨h1, h2, h3⟩ := h
    intro x hx
    simp only [Run.bytes, List.mem_cons] at hx
    rcases hx with rfl | hx
    · omega
    · exact h3 x hx
theorem Run.told_byte {r : Run} (h : r.ok) : ∀ x ∈ r.told, x < 256 := by
  cases r with
  | rep c n =>
    intro x hx
    have := List.eq_of_mem_replicate hx
    have := h.2.2
    omega
  | lit l => exact h.2.2
theorem runsB_byte {rs : List Run} (h : runsOk rs) : ∀ x ∈ runsB rs, x < 256 := by
  intro x hx
  obtain ⟨r, hr, hx⟩ := List.mem_flatMap.1 hx
  exact Run.byte (h r hr) x hx

/-- Pieces of at most 128. -/
def chunks : Nat → List Nat → List Run
  | 0, _ => []
  | f + 1, l => if l = [] then [] else .lit (l.take 128) :: chunks f (l.drop 128)
theorem chunks_ok (f : Nat) (l : List Nat) (h : ∀ x ∈ l, x < 256) : runsOk (chunks f l) := by
  induction f generalizing l with
  | zero => intro r hr; cases hr
  | succ f ih =>
    unfold chunks
    split
    · intro r hr; cases hr
    · rename_i hl
      intro r hr
      rcases List.mem_cons.1 hr with rfl | hr
      · refine ⟨?_, ?_, fun x hx => h x (List.mem_of_mem_take hx)⟩
        · rw [List.length_take]
          have : 0 < l.length := List.length_pos_iff.2 hl
          omega
        · rw [List.length_take]; omega
      · exact ih _ (fun x hx => h x (List.mem_of_mem_drop hx)) r hr
theorem chunks_told (f : Nat) (l : List Nat) (h : l.length ≤ 128 * f) : runsT (chunks f l) = l := by
  induction f generalizing l with
  | zero =>
    have hl : l = [] := List.eq_nil_of_length_eq_zero (by omega)
    rw [hl]; rfl
  | succ f ih =>
    unfold chunks
    split
    · rename_i hl; rw [hl]; rfl
    · show l.take 128 ++ runsT (chunks f (l.drop 128)) = l
      rw [ih _ (by rw [List.length_drop]; omega), List.take_append_drop]
theorem chunks_length (f : Nat) (l : List Nat) (h : l.length ≤ 128 * f) : (runsB (chunks f l)).length = l.length + (l.length + 127) / 128 := by
  induction f generalizing l with
  | zero =>
    have hl : l = [] := List.eq_nil_of_length_eq_zero (by omega)
    rw [hl]; rfl
  | succ f ih =>
    unfold chunks
    split
    · rename_i hl; rw [hl]; rfl
    · rename_i hl
      have h0 : 0 < l.length := List.length_pos_iff.2 hl
      show ((256 - (l.take 128).length) :: l.take 128 ++ runsB (chunks f (l.drop 128))).length = _
      have h1 := ih (l.drop 128) (by rw [List.length_drop]; omega)
      rw [List.length_append, h1, List.length_cons, List.length_take, List.length_drop]
      omega

/-- How often the first byte comes, at most m times. -/
def runLen (c : Nat) : Nat → List Nat → Nat
  | 0, _ => 0
  | _, [] => 0
  | m + 1, d :: t => if d = c then runLen c m t + 1 else 0
theorem runLen_le (c m : Nat) (l : List Nat) : runLen c m l ≤ m ∧ runLen c m l ≤ l.length := by
  induction m generalizing l with
  | zero => cases l <;> simp [runLen]
  | succ m ih =>
    cases l with
    | nil => simp [runLen]
    | cons d t =>
      unfold runLen
      have := ih t
      split
      · simp only [List.length_cons]; omega
      · simp
theorem runLen_take (c m : Nat) (l : List Nat) : l.take (runLen c m l) = List.replicate (runLen c m l) c := by
  induction m generalizing l with
  | zero => cases l <;> simp [runLen]
  | succ m ih =>
    cases l with
    | nil => simp [runLen]
    | cons d t =>
      unfold runLen
      split
      · rename_i h; rw [List.take_succ_cons, ih t, h, List.replicate_succ]
      · simp

/-- What Encode makes: the runs so far, the bytes that wait, the bytes to come. -/
def encG : Nat → List Nat → List Nat → List Run → List Run
  | 0, _, lits, out => out ++ chunks (lits.length + 1) lits
  | _, [], lits, out => out ++ chunks (lits.length + 1) lits
  | f + 1, c :: t, lits, out =>
    let n := runLen c 130 (c :: t)
    if 3 ≤ n then encG f ((c :: t).drop n) [] (out ++ chunks (lits.length + 1) lits ++ [.rep c n])
    else encG f ((c :: t).drop n) (lits ++ (c :: t).take n) out
def encS (l : List Nat) : List Run := encG (l.length + 1) l [] []

theorem runLen_pos (c : Nat) (t : List Nat) : 1 ≤ runLen c 130 (c :: t) := by
  show 1 ≤ (if c = c then runLen c 129 t + 1 else 0)
  rw [if_pos rfl]; omega

/-- What Encode's runs are: fit, and they tell the bytes. -/
theorem encG_spec (f : Nat) (l lits : List Nat) (out : List Run) (hf : l.length < f) (hl : ∀ x ∈ l, x < 256) (hp : ∀ x ∈ lits, x < 256) (ho : runsOk out) :
    runsOk (encG f l lits out) ∧ runsT (encG f l lits out) = runsT out ++ lits ++ l := by
  induction f generalizing l lits out with
  | zero => omega
  | succ f ih =>
    have hc := chunks_ok (lits.length + 1) lits hp
    have ht := chunks_told (lits.length + 1) lits (by omega)
    cases l with
    | nil =>
      show runsOk (out ++ chunks (lits.length + 1) lits) ∧ runsT (out ++ chunks (lits.length + 1) lits) = _
      exact ⟨runsOk_append ho hc, by rw [runsT_append, ht, List.append_nil]⟩
    | cons c t =>
      have h1 := runLen_pos c t
      have h2 := runLen_le c 130 (c :: t)
      have h3 := runLen_take c 130 (c :: t)
      have hcons : encG (f + 1) (c :: t) lits out = if 3 ≤ runLen c 130 (c :: t) then encG f ((c :: t).drop (runLen c 130 (c :: t))) [] (out ++ chunks (lits.length + 1) lits ++ [.rep c (runLen c 130 (c :: t))]) else encG f ((c :: t).drop (runLen c 130 (c :: t))) (lits ++ (c :: t).take (runLen c 130 (c :: t))) out := rfl
      rw [hcons]
      generalize runLen c 130 (c :: t) = n at *
      have hd : ∀ x ∈ (c :: t).drop n, x < 256 := fun x hx => hl x (List.mem_of_mem_drop hx)
      have hdl : ((c :: t).drop n).length < f := by rw [List.length_drop]; omega
      have htk : (c :: t).take n ++ (c :: t).drop n = c :: t := List.take_append_drop _ _
      split
      · rename_i hn
        have hok : runsOk (out ++ chunks (lits.length + 1) lits ++ [.rep c n]) := runsOk_append (runsOk_append ho hc) (fun r hr => by
          rw [List.mem_singleton] at hr
          subst hr
          exact ⟨hn, h2.1, hl c (by simp)⟩)
        obtain ⟨a, b⟩ := ih _ [] _ hdl hd (fun x hx => by cases hx) hok
        refine ⟨a, ?_⟩
        rw [b, runsT_append, runsT_append, ht, List.append_nil]
        have : runsT [.rep c n] = (c :: t).take n := by rw [h3]; simp [runsT, Run.told]
        rw [this, List.append_assoc, htk]
      · obtain ⟨a, b⟩ := ih _ (lits ++ (c :: t).take n) _ hdl hd (fun x hx => (List.mem_append.1 hx).elim (hp x) fun h => hl x (List.mem_of_mem_take h)) ho
        refine ⟨a, ?_⟩
        rw [b, List.append_assoc, List.append_assoc, htk, List.append_assoc]
theorem encS_ok (l : List Nat) (hl : ∀ x ∈ l, x < 256) : runsOk (encS l) := (encG_spec _ l [] [] (Nat.lt_succ_self _) hl (fun x hx => by cases hx) (fun r hr => by cases hr)).1
theorem encS_told (l : List Nat) (hl : ∀ x ∈ l, x < 256) : runsT (encS l) = l := by
  have := (encG_spec _ l [] [] (Nat.lt_succ_self _) hl (fun x hx => by cases hx) (fun r hr => by cases hr)).2
  exact this

/-- Few bytes. -/
theorem encG_few (f : Nat) (l lits : List Nat) (out : List Run) (L : Nat) (hf : l.length < f) (hL : lits.length + l.length ≤ L) (ho : (runsB out).length ≤ (L - l.length - lits.length) + (L - l.length - lits.length) / 128) :
    (runsB (encG f l lits out)).length ≤ L + L / 128 + 2 := by
  induction f generalizing l lits out with
  | zero => omega
  | succ f ih =>
    have hc := chunks_length (lits.length + 1) lits (by omega)
    cases l with
    | nil =>
      show (runsB (out ++ chunks (lits.length + 1) lits)).length ≤ _
      rw [runsB_append, List.length_append, hc]
      simp only [List.length_nil] at *
      omega
    | cons c t =>
      have h1 := runLen_pos c t
      have h2 := runLen_le c 130 (c :: t)
      have hcons : encG (f + 1) (c :: t) lits out = if 3 ≤ runLen c 130 (c :: t) then encG f ((c :: t).drop (runLen c 130 (c :: t))) [] (out ++ chunks (lits.length + 1) lits ++ [.rep c (runLen c 130 (c :: t))]) else encG f ((c :: t).drop (runLen c 130 (c :: t))) (lits ++ (c :: t).take (runLen c 130 (c :: t))) out := rfl
      rw [hcons]
      generalize runLen c 130 (c :: t) = n at *
      have hdl : ((c :: t).drop n).length = (c :: t).length - n := List.length_drop
      generalize hm : (c :: t).length = m at *
      split
      · refine ih _ [] _ (by omega) (by simp only [List.length_nil]; omega) ?_
        rw [runsB_append, runsB_append, List.length_append, List.length_append, hc]
        have : (runsB [Run.rep c n]).length = 2 := rfl
        rw [this, hdl, List.length_nil]
        omega
      · have htl : ((c :: t).take n).length = n := by rw [List.length_take, hm]; omega
        refine ih _ _ _ (by omega) (by rw [List.length_append, htl, hdl]; omega) ?_
        rw [List.length_append, htl, hdl]
        have e : L - (m - n) - (lits.length + n) = L - m - lits.length := by omega
        rw [e]
        exact ho
theorem encS_few (l : List Nat) : (runsB (encS l)).length ≤ l.length + l.length / 128 + 2 := encG_few _ l [] [] l.length (Nat.lt_succ_self _) (by simp) (by simp [runsB])

theorem runLen_same (c m k : Nat) : runLen c m (List.replicate k c) = min m k := by
  induction m generalizing k with
  | zero => cases k <;> simp [runLen]
  | succ m ih =>
    cases k with
    | zero => simp [runLen]
    | succ k =>
      show (if c = c then runLen c m (List.replicate k c) + 1 else 0) = _
      rw [if_pos rfl, ih]
      omega
theorem encG_nil (f : Nat) (lits : List Nat) (out : List Run) : encG f [] lits out = out ++ chunks (lits.length + 1) lits := by cases f <;> rfl
/-- One byte many times. -/
theorem encG_same (f m c : Nat) (out : List Run) (hf : m < f) : (runsB (encG f (List.replicate m c) [] out)).length ≤ (runsB out).length + 2 * (m / 130) + 3 := by
  induction f generalizing m out with
  | zero => omega
  | succ f ih =>
    cases m with
    | zero =>
      rw [show List.replicate 0 c = [] from rfl, encG_nil, runsB_append, List.length_append]
      show _ + 0 ≤ _
      omega
    | succ k =>
      have h1 := runLen_same c 130 (k + 1)
      have hcons : encG (f + 1) (List.replicate (k + 1) c) [] out = if 3 ≤ runLen c 130 (List.replicate (k + 1) c) then encG f ((List.replicate (k + 1) c).drop (runLen c 130 (List.replicate (k + 1) c))) [] (out ++ chunks 1 [] ++ [.rep c (runLen c 130 (List.replicate (k + 1) c))]) else encG f ((List.replicate (k + 1) c).drop (runLen c 130 (List.replicate (k + 1) c))) ([] ++ (List.replicate (k + 1) c).take (runLen c 130 (List.replicate (k + 1) c))) out := rfl
      rw [hcons, h1, List.drop_replicate]
      have e0 : (runsB (out ++ chunks 1 [] ++ [Run.rep c (min 130 (k + 1))])).length = (runsB out).length + 2 := by
        rw [runsB_append, runsB_append, List.length_append, List.length_append]
        rfl
      split
      · by_cases hk : k + 1 ≤ 130
        · have hz : k + 1 - min 130 (k + 1) = 0 := by omega
          rw [hz, show List.replicate 0 c = [] from rfl, encG_nil, runsB_append, List.length_append, e0]
          show _ + 0 ≤ _
          omega
        · refine Nat.le_trans (ih (k + 1 - min 130 (k + 1)) _ (by omega)) ?_
          rw [e0]
          omega
      · have hz : k + 1 - min 130 (k + 1) = 0 := by omega
        rw [hz, show List.replicate 0 c = [] from rfl, encG_nil, runsB_append, List.length_append, List.nil_append, List.take_replicate]
        rw [chunks_length _ _ (by rw [List.length_replicate]; omega)]
        simp only [List.length_replicate]
        omega
theorem encS_same (n c : Nat) : (runsB (encS (List.replicate n c))).length ≤ 2 * (n / 130) + 3 := by
  have := encG_same (n + 1) n c [] (Nat.lt_succ_self _)
  unfold encS
  rw [List.length_replicate]
  simpa [runsB] using this

/-- What Decode answers: the bytes, the error. -/
def decS : List Run → List Nat → Nat → List Nat × Nat
  | [], acc, count => if acc.length < count then ([], 3) else if count < acc.length then ([], 2) else (acc, 0)
  | r :: rs, acc, count => if acc.length < count then decS rs (acc ++ r.told) count else ([], 2)
/-- What Used answers: how many bytes, the error. -/
def usedS : List Run → Nat → Nat → Nat → Nat × Nat
  | [], told, at_, count => if told < count then (0, 3) else (at_, 0)
  | r :: rs, told, at_, count => if told < count then usedS rs (told + r.told.length) (at_ + r.bytes.length) count else (at_, 0)

theorem Run.told_pos {r : Run} (h : r.ok) : 1 ≤ r.told.length ∧ r.told.length ≤ 130 := by
  cases r with
  | rep c n => obtain ⟨h1, h2, _⟩ := h; simp only [Run.told, List.length_replicate]; omega
  | lit l => obtain ⟨h1, h2, _⟩ := h; simp only [Run.told]; omega
theorem runsT_cons (r : Run) (rs : List Run) : runsT (r :: rs) = r.told ++ runsT rs := by simp [runsT]
theorem runsB_cons (r : Run) (rs : List Run) : runsB (r :: rs) = r.bytes ++ runsB rs := by simp [runsB]

theorem decS_all (rs : List Run) (acc : List Nat) (count : Nat) (h : runsOk rs) (hc : acc.length + (runsT rs).length = count) : decS rs acc count = (acc ++ runsT rs, 0) := by
  induction rs generalizing acc with
  | nil =>
    have : (runsT []).length = 0 := rfl
    unfold decS
    rw [if_neg (by omega), if_neg (by omega)]
    show (acc, 0) = (acc ++ [], 0)
    rw [List.append_nil]
  | cons r rs ih =>
    rw [runsT_cons, List.length_append] at hc
    have := (Run.told_pos (h r (by simp))).1
    unfold decS
    rw [if_pos (by omega), ih _ (fun q hq => h q (by simp [hq])) (by rw [List.length_append]; omega), runsT_cons, List.append_assoc]
theorem decS_more (rs : List Run) (acc : List Nat) (count : Nat) (hc : acc.length + (runsT rs).length < count) : decS rs acc count = ([], 3) := by
  induction rs generalizing acc with
  | nil =>
    have : (runsT []).length = 0 := rfl
    unfold decS
    rw [if_pos (by omega)]
  | cons r rs ih =>
    rw [runsT_cons, List.length_append] at hc
    unfold decS
    rw [if_pos (by omega), ih _ (by rw [List.length_append]; omega)]
theorem decS_less (rs : List Run) (acc : List Nat) (count : Nat) (hc : count < acc.length + (runsT rs).length) : decS rs acc count = ([], 2) := by
  induction rs generalizing acc with
  | nil =>
    have : (runsT []).length = 0 := rfl
    unfold decS
    rw [if_neg (by omega), if_pos (by omega)]
  | cons r rs ih =>
    rw [runsT_cons, List.length_append] at hc
    unfold decS
    split
    · rw [ih _ (by rw [List.length_append]; omega)]
    · rfl
theorem usedS_all (rs qs : List Run) (told at_ count : Nat) (h : runsOk rs) (hc : told + (runsT rs).length = count) : usedS (rs ++ qs) told at_ count = (at_ + (runsB rs).length, 0) := by
  induction rs generalizing told at_ with
  | nil =>
    have : (runsT []).length = 0 := rfl
    have h2 : (runsB []).length = 0 := rfl
    rw [h2]
    cases qs with
    | nil => show usedS [] told at_ count = _; unfold usedS; rw [if_neg (by omega)]; rfl
    | cons q qs => show usedS (q :: qs) told at_ count = _; unfold usedS; rw [if_neg (by omega)]; rfl
  | cons r rs ih =>
    rw [runsT_cons, List.length_append] at hc
    have := (Run.told_pos (h r (by simp))).1
    show usedS (r :: (rs ++ qs)) told at_ count = _
    unfold usedS
    rw [if_pos (by omega), ih _ _ (fun q hq => h q (by simp [hq])) (by omega), runsB_cons, List.length_append]
    congr 1
    omega
end Go.Proofs.Ytcmmgehghlaofaa
