/- Plain words of the laws of layer 9: runs made by hand, rows of runs; no program in sight. -/
import Derived.Test.YtehcbgnoiogncaaRunOne
namespace Go.Proofs.Ytehcbgnoiogncaa
open PackMath
set_option linter.unusedVariables false

theorem bitAt_mid (h m tl : List Nat) (q : Nat) (hq : q / 8 < m.length) : bitAt (h ++ m ++ tl) (8 * h.length + q) = bitAt m q := by
  unfold bitAt
  rw [show (8 * h.length + q) / 8 = h.length + q / 8 from by omega, show (8 * h.length + q) % 8 = q % 8 from by omega]
  congr 1
  rw [List.getD_eq_getElem?_getD, List.getD_eq_getElem?_getD, List.append_assoc, List.getElem?_append_right (by omega), show h.length + q / 8 - h.length = q / 8 from by omega, List.getElem?_append_left hq]
/-- Packed numbers read back behind a head, with anything behind them. -/
theorem get_put_at (h l : List Nat) (wd : Nat) (tl : List Nat) : getSpec (h ++ putSpec l wd ++ tl) (8 * h.length) l.length wd = l.map (· % 2 ^ wd) := by
  refine List.ext_getElem (by simp [getSpec]) fun i h1 h2 => ?_
  have hi : i < l.length := by simpa [getSpec] using h1
  simp only [getSpec, List.getElem_map, List.getElem_range]
  rw [← numOf_bits]
  refine numOf_congr _ _ _ fun k hk => ?_
  have hlt : i * wd + k < l.length * wd := by
    have : (i + 1) * wd ≤ l.length * wd := Nat.mul_le_mul_right _ hi
    rw [Nat.add_mul, Nat.one_mul] at this
    omega
  have hb := bytesOf_bit (bitOf l wd) (nbytes (l.length * wd)) (i * wd + k) (by unfold nbytes; omega)
  rw [Nat.add_assoc, bitAt_mid h (putSpec l wd) tl (i * wd + k) (by unfold putSpec; rw [bytesOf_length]; unfold nbytes; omega)]
  unfold putSpec
  rw [hb, bit_at l wd i k hi hk, getD_eq _ _ hi]
theorem putSpec_len (l : List Nat) (wd : Nat) : (putSpec l wd).length = nbytes (l.length * wd) := bytesOf_length _ _
theorem putSpec_byte (l : List Nat) (wd : Nat) : ∀ x ∈ putSpec l wd, x < 256 := bytesOf_lt _ _
/-- The two bytes of a head. -/
def hdB (k code c : Nat) : List Nat := [64 * k + 2 * code + c / 256, c % 256]
theorem hdB_byte (k code c : Nat) (hk : k < 4) (hc : code < 32) (hc2 : c < 512) : ∀ x ∈ hdB k code c, x < 256 := by
  intro x hx
  simp [hdB] at hx
  omega
theorem hdB_at (pre : List Nat) (k code c : Nat) (tl : List Nat) : (pre ++ hdB k code c ++ tl).getD pre.length 0 = 64 * k + 2 * code + c / 256 ∧ (pre ++ hdB k code c ++ tl).getD (pre.length + 1) 0 = c % 256 := by
  unfold hdB
  constructor
  · rw [List.getD_eq_getElem?_getD, List.append_assoc, List.getElem?_append_right (by omega), Nat.sub_self]; rfl
  · rw [List.getD_eq_getElem?_getD, List.append_assoc, List.getElem?_append_right (by omega), show pre.length + 1 - pre.length = 1 from by omega]; rfl
theorem hdB_of (bs pre : List Nat) (k code c : Nat) (tl : List Nat) (hb : bs = pre ++ hdB k code c ++ tl) (hk : k < 4) (hc : code < 32) (hc2 : c < 512) : hdCode bs pre.length = code ∧ hdCount bs pre.length = c + 1 ∧ bs.getD pre.length 0 / 64 = k := by
  have h := hdB_at pre k code c tl
  rw [← hb] at h
  unfold hdCode hdCount
  rw [h.1, h.2]
  omega
theorem plain_made (bs pre l tl : List Nat) (code : Nat) (sg : Bool) (hb : bs = pre ++ hdB 1 code (l.length - 1) ++ (putSpec l (widN code) ++ tl)) (hl : 1 ≤ l.length) (hl2 : l.length ≤ 512) (hc : code < 32) :
    runS bs pre.length sg = okR (numL sg (l.map (· % 2 ^ widN code))) (2 + nbytes (l.length * widN code)) := by
  obtain ⟨h1, h2, h3⟩ := hdB_of bs pre 1 code (l.length - 1) _ hb (by decide) hc (by omega)
  have hlen : bs.length = pre.length + 2 + nbytes (l.length * widN code) + tl.length := by
    rw [hb]; simp [hdB, putSpec_len]; omega
  unfold runS
  rw [if_neg (by omega), if_neg (by omega), h3, if_neg (by decide), if_pos rfl]
  unfold plainS
  rw [h1, h2, show l.length - 1 + 1 = l.length from by omega, if_neg (by omega), if_neg (by omega)]
  congr 2
  have := get_put_at (pre ++ hdB 1 code (l.length - 1)) l (widN code) tl
  rw [List.append_assoc, ← hb] at this
  rw [← this]
  congr 2
  simp [hdB]
theorem plain_cut (bs pre part : List Nat) (code c : Nat) (sg : Bool) (hb : bs = pre ++ hdB 1 code c ++ part) (hc2 : c < 512) (hc : code < 32) (hp : part.length < nbytes ((c + 1) * widN code)) :
    runS bs pre.length sg = badR 3 := by
  obtain ⟨h1, h2, h3⟩ := hdB_of bs pre 1 code c _ hb (by decide) hc (by omega)
  have hlen : bs.length = pre.length + 2 + part.length := by
    rw [hb]; simp [hdB]; omega
  unfold runS
  rw [if_neg (by omega), if_neg (by omega), h3, if_neg (by decide), if_pos rfl]
  unfold plainS
  rw [h1, h2, if_neg (by omega), if_pos (by omega)]
theorem numL_map (sg : Bool) (f : Nat → Int) (us : List Nat) (h : ∀ u ∈ us, numS sg u = some (f u)) : numL sg us = some (us.map f) := by
  induction us with
  | nil => rfl
  | cons u us ih =>
    unfold numL
    rw [h u (by simp), ih fun x hx => h x (by simp [hx])]
    rfl
theorem numL_true (us : List Nat) : numL true us = some (us.map fun (u : Nat) => zagS (u : Int)) := numL_map true _ us fun u _ => by unfold numS; rw [if_pos rfl]
theorem nbytes64 (n : Nat) : nbytes (n * 64) = 8 * n := by unfold nbytes; omega
theorem widN31 : widN 31 = 64 := by decide
/-- A Plain of 64 bits. -/
def chunkB (us : List Nat) : List Nat := hdB 1 31 (us.length - 1) ++ putSpec us 64
theorem chunkB_len (us : List Nat) : (chunkB us).length = 2 + 8 * us.length := by
  unfold chunkB
  rw [List.length_append, putSpec_len, nbytes64]
  simp [hdB]
theorem chunkB_byte (us : List Nat) (h2 : us.length ≤ 512) : ∀ x ∈ chunkB us, x < 256 := by
  intro x hx
  unfold chunkB at hx
  rcases List.mem_append.1 hx with hx | hx
  · exact hdB_byte 1 31 (us.length - 1) (by decide) (by decide) (by omega) x hx
  · exact putSpec_byte _ _ x hx
def ChunkOk (sg : Bool) (f : Nat → Int) (us : List Nat) : Prop := (1 ≤ us.length ∧ us.length ≤ 512) ∧ ∀ u ∈ us, u < 18446744073709551616 ∧ numS sg u = some (f u)
theorem chunk_run (pre us tl : List Nat) (sg : Bool) (f : Nat → Int) (h : ChunkOk sg f us) : runS (pre ++ chunkB us ++ tl) pre.length sg = (us.map f, (chunkB us).length, 0) := by
  obtain ⟨⟨h1, h2⟩, h3⟩ := h
  have := plain_made (pre ++ chunkB us ++ tl) pre us tl 31 sg (by unfold chunkB; rw [widN31]; simp) h1 h2 (by decide)
  rw [this, widN31, nbytes64, chunkB_len]
  have e : us.map (· % 2 ^ 64) = us := by
    conv => rhs; rw [← List.map_id us]
    refine List.map_congr_left fun u hu => ?_
    have := (h3 u hu).1
    exact Nat.mod_eq_of_lt this
  rw [e, numL_map sg f us fun u hu => (h3 u hu).2]
  rfl
/-- Rows of Plains. -/
def encU (cs : List (List Nat)) : List Nat := (cs.map chunkB).flatten
theorem encU_cons (c : List Nat) (cs : List (List Nat)) : encU (c :: cs) = chunkB c ++ encU cs := by simp [encU]
theorem encU_append (a b : List (List Nat)) : encU (a ++ b) = encU a ++ encU b := by simp [encU]
theorem encU_byte (cs : List (List Nat)) (h : ∀ c ∈ cs, c.length ≤ 512) : ∀ x ∈ encU cs, x < 256 := by
  intro x hx
  unfold encU at hx
  simp only [List.mem_flatten, List.mem_map] at hx
  obtain ⟨l, ⟨c, hc, rfl⟩, hx⟩ := hx
  exact chunkB_byte c (h c hc) x hx
theorem dec_chunks (sg : Bool) (f : Nat → Int) (cs : List (List Nat)) (hc : ∀ c ∈ cs, ChunkOk sg f c) (pre tl : List Nat) (count fuel : Nat) (acc : List Int) (h : acc.length + cs.flatten.length ≤ count) (hf : cs.length ≤ fuel) :
    decR (pre ++ encU cs ++ tl) count sg fuel pre.length acc = decR (pre ++ encU cs ++ tl) count sg (fuel - cs.length) (pre.length + (encU cs).length) (acc ++ cs.flatten.map f) := by
  induction cs generalizing pre fuel acc with
  | nil => simp [encU]
  | cons c cs ih =>
    have hk := hc c (by simp)
    rw [List.flatten_cons, List.length_append] at h
    rw [List.length_cons] at hf
    obtain ⟨fuel, rfl⟩ : ∃ g, fuel = g + 1 := ⟨fuel - 1, by omega⟩
    have h1 := hk.1.1
    conv => lhs; unfold decR
    rw [if_pos (by omega)]
    have e : pre ++ encU (c :: cs) ++ tl = pre ++ chunkB c ++ (encU cs ++ tl) := by rw [encU_cons]; simp
    rw [e, chunk_run pre c _ sg f hk]
    dsimp only
    rw [if_neg (by decide), if_neg (by rw [List.length_map]; omega)]
    have := ih (fun d hd => hc d (by simp [hd])) (pre ++ chunkB c) fuel (acc ++ c.map f) (by rw [List.length_append, List.length_map]; omega) (by omega)
    rw [List.length_append, List.append_assoc (pre ++ chunkB c)] at this
    rw [this]
    rw [List.length_cons, show fuel + 1 - (cs.length + 1) = fuel - cs.length from by omega, encU_cons, List.length_append, List.flatten_cons, List.map_append]
    simp only [List.append_assoc, Nat.add_assoc]
theorem flat_len (cs : List (List Nat)) (h : ∀ c ∈ cs, 1 ≤ c.length) : cs.length ≤ cs.flatten.length := by
  induction cs with
  | nil => simp
  | cons c cs ih =>
    rw [List.length_cons, List.flatten_cons, List.length_append]
    have := h c (by simp)
    have := ih fun d hd => h d (by simp [hd])
    omega
theorem chunks_pos {sg : Bool} {f : Nat → Int} {cs : List (List Nat)} (hc : ∀ c ∈ cs, ChunkOk sg f c) : cs.length ≤ cs.flatten.length := flat_len cs fun c h => (hc c h).1.1
theorem dec_stop (bs : List Nat) (count : Nat) (sg : Bool) (fuel p : Nat) (acc : List Int) (h : acc.length = count) : decR bs count sg fuel p acc = if p < bs.length then ([], 2) else (acc, 0) := by
  cases fuel with
  | zero => unfold decR; rw [if_neg (by omega)]
  | succ f => unfold decR; rw [if_neg (by omega)]
/-- All of them, with anything behind. -/
theorem dec_tail (sg : Bool) (f : Nat → Int) (cs : List (List Nat)) (hc : ∀ c ∈ cs, ChunkOk sg f c) (tl : List Nat) (h : cs.flatten.length ≤ 16384) : decT (encU cs ++ tl) (cs.flatten.length : Int) sg = if 0 < tl.length then ([], 2) else (cs.flatten.map f, 0) := by
  unfold decT
  rw [if_neg (by omega), Int.toNat_natCast]
  have := dec_chunks sg f cs hc [] tl cs.flatten.length cs.flatten.length [] (by simp) (chunks_pos hc)
  rw [List.nil_append, List.nil_append, List.length_nil, Nat.zero_add] at this
  rw [this, dec_stop _ _ _ _ _ _ (by rw [List.length_map]), List.length_append]
  by_cases ht : 0 < tl.length
  · rw [if_pos ht, if_pos (by omega)]
  · rw [if_neg ht, if_neg (by omega)]
theorem dec_whole (sg : Bool) (f : Nat → Int) (cs : List (List Nat)) (hc : ∀ c ∈ cs, ChunkOk sg f c) (h : cs.flatten.length ≤ 16384) : decT (encU cs) (cs.flatten.length : Int) sg = (cs.flatten.map f, 0) := by
  have := dec_tail sg f cs hc [] h
  rwa [List.append_nil, if_neg (by simp)] at this
theorem runS_over (bs : List Nat) (sg : Bool) : runS bs bs.length sg = badR 3 := by
  unfold runS
  rw [if_neg (by omega), if_pos rfl]
/-- A count that is more. -/
theorem dec_more (sg : Bool) (f : Nat → Int) (cs : List (List Nat)) (hc : ∀ c ∈ cs, ChunkOk sg f c) (count : Nat) (h : cs.flatten.length < count) (h2 : count ≤ 16384) : decT (encU cs) (count : Int) sg = ([], 3) := by
  unfold decT
  rw [if_neg (by omega), Int.toNat_natCast]
  have hp := chunks_pos hc
  have := dec_chunks sg f cs hc [] [] count count [] (by rw [List.length_nil]; omega) (by omega)
  rw [List.nil_append, List.nil_append, List.append_nil, List.length_nil, Nat.zero_add] at this
  rw [this]
  obtain ⟨g, hg⟩ : ∃ g, count - cs.length = g + 1 := ⟨count - cs.length - 1, by omega⟩
  rw [hg]
  unfold decR
  rw [if_pos (by rw [List.length_map]; omega), runS_over]
  rfl
/-- Without the last byte. -/
theorem dec_cut (sg : Bool) (f : Nat → Int) (cs : List (List Nat)) (hc : ∀ c ∈ cs, ChunkOk sg f c) (h : cs.flatten.length ≤ 16384) (hne : cs ≠ []) : decT (encU cs).dropLast (cs.flatten.length : Int) sg = ([], 3) := by
  unfold decT
  rw [if_neg (by omega), Int.toNat_natCast]
  obtain ⟨ds, d, rfl⟩ : ∃ ds d, cs = ds ++ [d] := ⟨cs.dropLast, cs.getLast hne, (List.dropLast_concat_getLast hne).symm⟩
  have hd := hc d (by simp)
  have hds : ∀ c ∈ ds, ChunkOk sg f c := fun c hh => hc c (by simp [hh])
  have hpos := chunks_pos hds
  have hd1 := hd.1.1
  have e0 : (ds ++ [d]).flatten.length = ds.flatten.length + d.length := by simp
  have hput : putSpec d 64 ≠ [] := by
    intro h0
    have := putSpec_len d 64
    rw [h0, nbytes64, List.length_nil] at this
    omega
  have e1 : (encU (ds ++ [d])).dropLast = encU ds ++ (hdB 1 31 (d.length - 1) ++ (putSpec d 64).dropLast) := by
    rw [encU_append, show encU [d] = chunkB d from by simp [encU]]
    unfold chunkB
    rw [← List.append_assoc, List.dropLast_append_of_ne_nil hput, List.append_assoc]
  rw [e0, e1]
  have := dec_chunks sg f ds hds [] (hdB 1 31 (d.length - 1) ++ (putSpec d 64).dropLast) (ds.flatten.length + d.length) (ds.flatten.length + d.length) [] (by simp) (by omega)
  rw [List.nil_append, List.nil_append, List.length_nil, Nat.zero_add] at this
  rw [this]
  obtain ⟨g, hg⟩ : ∃ g, ds.flatten.length + d.length - ds.length = g + 1 := ⟨ds.flatten.length + d.length - ds.length - 1, by omega⟩
  rw [hg]
  unfold decR
  rw [if_pos (by rw [List.length_map]; omega)]
  have hd2 := hd.1.2
  rw [plain_cut _ (encU ds) (putSpec d 64).dropLast 31 (d.length - 1) sg (by simp) (by omega) (by decide) (by rw [List.length_dropLast, putSpec_len, widN31, nbytes64, nbytes64]; omega)]
  rfl
/-- A count that is less. -/
theorem dec_less_at (sg : Bool) (f : Nat → Int) (cs : List (List Nat)) (hc : ∀ c ∈ cs, ChunkOk sg f c) (pre : List Nat) (count fuel : Nat) (acc : List Int) (h : acc.length ≤ count) (h2 : count < acc.length + cs.flatten.length) (hf : count ≤ acc.length + fuel) :
    decR (pre ++ encU cs) count sg fuel pre.length acc = ([], 2) := by
  induction cs generalizing pre fuel acc with
  | nil => simp at h2; omega
  | cons c cs ih =>
    have hk := hc c (by simp)
    have hk1 := hk.1.1
    rw [List.flatten_cons, List.length_append] at h2
    by_cases he : acc.length = count
    · rw [dec_stop _ _ _ _ _ _ he, if_pos]
      rw [encU_cons, List.length_append, List.length_append, chunkB_len]
      omega
    · obtain ⟨fuel, rfl⟩ : ∃ g, fuel = g + 1 := ⟨fuel - 1, by omega⟩
      unfold decR
      rw [if_pos (by omega)]
      have e : pre ++ encU (c :: cs) = pre ++ chunkB c ++ encU cs := by rw [encU_cons]; simp
      rw [e, chunk_run pre c _ sg f hk]
      dsimp only
      rw [if_neg (by decide), List.length_map]
      by_cases hb : count < acc.length + c.length
      · rw [if_pos hb]
      · rw [if_neg hb]
        have := ih (fun d hd => hc d (by simp [hd])) (pre ++ chunkB c) fuel (acc ++ c.map f) (by rw [List.length_append, List.length_map]; omega) (by rw [List.length_append, List.length_map]; omega) (by rw [List.length_append, List.length_map]; omega)
        rw [List.length_append] at this
        exact this
theorem dec_less (sg : Bool) (f : Nat → Int) (cs : List (List Nat)) (hc : ∀ c ∈ cs, ChunkOk sg f c) (count : Nat) (h : count < cs.flatten.length) (h2 : count ≤ 16384) : decT (encU cs) (count : Int) sg = ([], 2) := by
  unfold decT
  rw [if_neg (by omega), Int.toNat_natCast]
  exact dec_less_at sg f cs hc [] count count [] (Nat.zero_le _) (by simpa using h) (by simp)
/-- A row cut into pieces of five hundred and twelve. -/
def cut512 (l : List Nat) (k : Nat) : List (List Nat) := (List.range k).map fun i => (l.drop (512 * i)).take 512
theorem cut512_succ (l : List Nat) (k : Nat) : cut512 l (k + 1) = cut512 l k ++ [(l.drop (512 * k)).take 512] := by simp [cut512, List.range_succ]
theorem cut512_flat (l : List Nat) (k : Nat) : (cut512 l k).flatten = l.take (512 * k) := by
  induction k with
  | zero => simp [cut512]
  | succ k ih =>
    rw [cut512_succ, List.flatten_append, ih, show 512 * (k + 1) = 512 * k + 512 from by omega, List.take_add]
    simp
def cutsOf (l : List Nat) : List (List Nat) := cut512 l ((l.length + 511) / 512)
theorem cutsOf_flat (l : List Nat) : (cutsOf l).flatten = l := by
  unfold cutsOf
  rw [cut512_flat, List.take_of_length_le (by omega)]
theorem cutsOf_ok (sg : Bool) (f : Nat → Int) (l : List Nat) (h : ∀ u ∈ l, u < 18446744073709551616 ∧ numS sg u = some (f u)) : ∀ c ∈ cutsOf l, ChunkOk sg f c := by
  intro c hc
  simp only [cutsOf, cut512, List.mem_map, List.mem_range] at hc
  obtain ⟨i, hi, rfl⟩ := hc
  refine ⟨⟨?_, ?_⟩, fun u hu => h u (List.mem_of_mem_drop (List.mem_of_mem_take hu))⟩
  · rw [List.length_take, List.length_drop]; omega
  · rw [List.length_take]; omega
theorem cutsOf_nil (l : List Nat) (h : cutsOf l = []) : l = [] := by
  have := cutsOf_flat l
  rw [h] at this
  simpa using this.symm
/-- What the reference's Encode makes. -/
def numU (sg : Bool) (v : Int) : Nat := if sg = true then (zigS v).toNat else (v % 18446744073709551616).toNat
def encS (sg : Bool) (l : List Int) : List Nat := encU (cutsOf (l.map (numU sg)))
theorem numU_lt (sg : Bool) (v : Int) (h : InI v) : numU sg v < 18446744073709551616 := by
  unfold numU
  have := zig_in v h
  split <;> omega
theorem numU_zag (v : Int) (h : InI v) : numS true (numU true v) = some v := by
  unfold numS numU
  have := zig_in v h
  rw [if_pos rfl, if_pos rfl, show (((zigS v).toNat : Nat) : Int) = zigS v from by omega, zag_zig]
theorem numU_pos (v : Int) (h : InI v) (h0 : 0 ≤ v) : numU false v = v.toNat := by
  unfold InI at h
  unfold numU
  rw [if_neg (by decide)]
  omega
theorem zagzig_map (l : List Int) (h : ∀ v ∈ l, InI v) : (l.map (numU true)).map (fun (u : Nat) => zagS (u : Int)) = l := by
  rw [List.map_map]
  conv => rhs; rw [← List.map_id l]
  refine List.map_congr_left fun v hv => ?_
  have := numU_zag v (h v hv)
  unfold numS at this
  rw [if_pos rfl] at this
  injection this
theorem encS_ok (l : List Int) (h : ∀ v ∈ l, InI v) : ∀ c ∈ cutsOf (l.map (numU true)), ChunkOk true (fun (u : Nat) => zagS (u : Int)) c :=
  cutsOf_ok _ _ _ fun u hu => by
    simp only [List.mem_map] at hu
    obtain ⟨v, hv, rfl⟩ := hu
    exact ⟨numU_lt _ _ (h v hv), by unfold numS; rw [if_pos rfl]⟩
theorem encS_byte (sg : Bool) (l : List Int) : ∀ x ∈ encS sg l, x < 256 := encU_byte _ fun c hc => by
  simp only [cutsOf, cut512, List.mem_map, List.mem_range] at hc
  obtain ⟨i, hi, rfl⟩ := hc
  rw [List.length_take]; omega
theorem cuts_len (l : List Nat) (k : Nat) : (encU (cut512 l k)).length = 2 * k + 8 * (l.take (512 * k)).length := by
  induction k with
  | zero => simp [cut512, encU]
  | succ k ih =>
    rw [cut512_succ, encU_append, List.length_append, ih, show encU [(l.drop (512 * k)).take 512] = chunkB ((l.drop (512 * k)).take 512) from by simp [encU], chunkB_len]
    simp only [List.length_take, List.length_drop]
    omega
theorem encS_len (sg : Bool) (l : List Int) : (encS sg l).length = 2 * ((l.length + 511) / 512) + 8 * l.length := by
  unfold encS cutsOf
  rw [cuts_len]
  simp only [List.length_take, List.length_map]
  omega
/-- Three rows of runs. -/
theorem rows3 (a b c : List Int) (ha : ∀ v ∈ a, InI v) (hb : ∀ v ∈ b, InI v) (hc : ∀ v ∈ c, InI v) : ∃ cs, encS true a ++ encS true b ++ encS true c = encU cs ∧ (∀ d ∈ cs, ChunkOk true (fun (u : Nat) => zagS (u : Int)) d) ∧ cs.flatten.map (fun (u : Nat) => zagS (u : Int)) = a ++ b ++ c ∧ cs.flatten.length = a.length + b.length + c.length := by
  refine ⟨cutsOf (a.map (numU true)) ++ cutsOf (b.map (numU true)) ++ cutsOf (c.map (numU true)), by unfold encS; rw [encU_append, encU_append], fun d hd => ?_, ?_, ?_⟩
  · rcases List.mem_append.1 hd with hd | hd
    · rcases List.mem_append.1 hd with hd | hd
      · exact encS_ok a ha d hd
      · exact encS_ok b hb d hd
    · exact encS_ok c hc d hd
  · rw [List.flatten_append, List.flatten_append, cutsOf_flat, cutsOf_flat, cutsOf_flat, List.map_append, List.map_append, zagzig_map a ha, zagzig_map b hb, zagzig_map c hc]
  · rw [List.flatten_append, List.flatten_append, cutsOf_flat, cutsOf_flat, cutsOf_flat]
    simp only [List.length_append, List.length_map]
theorem rows_law (a b c : List Int) (ha : ∀ v ∈ a, InI v) (hb : ∀ v ∈ b, InI v) (hc : ∀ v ∈ c, InI v) (hn : a.length + b.length + c.length ≤ 16384) :
    decT (encS true a ++ encS true b ++ encS true c) ((a.length + b.length + c.length : Nat) : Int) true = (a ++ b ++ c, 0)
    ∧ (1 ≤ a.length + b.length + c.length → decT (encS true a ++ encS true b ++ encS true c).dropLast ((a.length + b.length + c.length : Nat) : Int) true = ([], 3))
    ∧ decT (encS true a ++ encS true b ++ encS true c ++ [0]) ((a.length + b.length + c.length : Nat) : Int) true = ([], 2) := by
  obtain ⟨cs, h1, h2, h3, h4⟩ := rows3 a b c ha hb hc
  rw [h1, ← h3, ← h4]
  refine ⟨dec_whole _ _ cs h2 (by omega), fun hp => dec_cut _ _ cs h2 (by omega) fun h0 => ?_, ?_⟩
  · rw [h0, List.flatten_nil, List.length_nil] at hp; omega
  · rw [dec_tail _ _ cs h2 [0] (by omega), if_pos (by decide)]
theorem counts_law (l : List Int) (h : ∀ v ∈ l, InI v) (hn : l.length ≤ 16384) (count : Int) :
    decT (encS true l) count true = if count < 0 ∨ 16384 < count then ([], 1) else if count < (l.length : Int) then ([], 2) else if (l.length : Int) < count then ([], 3) else (l, 0) := by
  by_cases hc : count < 0 ∨ 16384 < count
  · rw [if_pos hc]; unfold decT; rw [if_pos hc]
  · rw [if_neg hc]
    obtain ⟨n, rfl⟩ : ∃ n : Nat, count = (n : Int) := ⟨count.toNat, by omega⟩
    have hk := encS_ok l h
    have hf : (cutsOf (l.map (numU true))).flatten.length = l.length := by rw [cutsOf_flat, List.length_map]
    by_cases h1 : (n : Int) < (l.length : Int)
    · rw [if_pos h1]; exact dec_less _ _ _ hk n (by omega) (by omega)
    · rw [if_neg h1]
      by_cases h2 : (l.length : Int) < (n : Int)
      · rw [if_pos h2]; exact dec_more _ _ _ hk n (by omega) (by omega)
      · rw [if_neg h2]
        have := dec_whole _ _ _ hk (by omega)
        rw [cutsOf_flat, zagzig_map l h, List.length_map] at this
        rw [show (n : Int) = (l.length : Int) from by omega]
        exact this
theorem signs_law (l : List Int) (h : ∀ v ∈ l, InI v ∧ 0 ≤ v) (hn : l.length ≤ 16384) :
    decT (encS false l) (l.length : Int) false = (l, 0) ∧ decT (encS false l) (l.length : Int) true = (l.map zagS, 0) := by
  have hu : ∀ v ∈ l, ((numU false v : Nat) : Int) = v := fun v hv => by rw [numU_pos v (h v hv).1 (h v hv).2]; have := (h v hv).2; omega
  have hk1 : ∀ c ∈ cutsOf (l.map (numU false)), ChunkOk false (fun (u : Nat) => (u : Int)) c := cutsOf_ok _ _ _ fun u hu' => by
    simp only [List.mem_map] at hu'
    obtain ⟨v, hv, rfl⟩ := hu'
    refine ⟨numU_lt _ _ (h v hv).1, ?_⟩
    have h1 := hu v hv
    have h2 := (h v hv).1
    unfold InI at h2
    unfold numS
    rw [if_neg (by decide), if_pos (by omega)]
  have hk2 : ∀ c ∈ cutsOf (l.map (numU false)), ChunkOk true (fun (u : Nat) => zagS (u : Int)) c := cutsOf_ok _ _ _ fun u hu' => by
    simp only [List.mem_map] at hu'
    obtain ⟨v, hv, rfl⟩ := hu'
    exact ⟨numU_lt _ _ (h v hv).1, by unfold numS; rw [if_pos rfl]⟩
  have h1 := dec_whole _ _ _ hk1 (by rw [cutsOf_flat, List.length_map]; exact hn)
  have h2 := dec_whole _ _ _ hk2 (by rw [cutsOf_flat, List.length_map]; exact hn)
  rw [cutsOf_flat, List.length_map, List.map_map] at h1 h2
  have e1 : l.map ((fun (u : Nat) => (u : Int)) ∘ numU false) = l := by
    conv => rhs; rw [← List.map_id l]
    exact List.map_congr_left fun v hv => hu v hv
  have e2 : l.map ((fun (u : Nat) => zagS (u : Int)) ∘ numU false) = l.map zagS := List.map_congr_left fun v hv => by
    simp only [Function.comp]
    rw [hu v hv]
  rw [e1] at h1
  rw [e2] at h2
  exact ⟨h1, h2⟩
end Go.Proofs.Ytehcbgnoiogncaa
