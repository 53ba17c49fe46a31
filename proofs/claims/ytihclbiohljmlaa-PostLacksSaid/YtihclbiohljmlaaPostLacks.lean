/- PostLacks: the walk. -/
import Derived.Test.YtihclbiohljmlaaPostFields
namespace Go.Proofs.Ytihclbiohljmlaa
open Go.RowKit
set_option linter.unusedVariables false

theorem lack_bytes_0 (bs : List Nat) : putsB (lackP 0 bs) = ([] ++ putU 2 0) ++ putU 1 5 := by
  have e0 : putU 2 0 = (PutV.num 2 0).bytes := putU_eq 2 0 (by decide)
  have e1 : putU 1 5 = (PutV.num 1 5).bytes := putU_eq 1 5 (by decide)
  rw [e0, e1]
  unfold lackP
  simp [putsB]
theorem lack_bytes_1 (bs : List Nat) : putsB (lackP 1 bs) = (([] ++ putU 2 0) ++ putU 1 5) ++ putT 8000 bs := by
  have e0 : putU 2 0 = (PutV.num 2 0).bytes := putU_eq 2 0 (by decide)
  have e1 : putU 1 5 = (PutV.num 1 5).bytes := putU_eq 1 5 (by decide)
  have e2 : putT 8000 bs = (PutV.txt 8000 bs).bytes := putT_eq 8000 bs (by decide)
  rw [e0, e1, e2]
  unfold lackP
  simp [putsB]
theorem lack_bytes_2 (bs : List Nat) : putsB (lackP 2 bs) = ([] ++ putU 2 0) ++ putT 8000 magicB := by
  have e0 : putU 2 0 = (PutV.num 2 0).bytes := putU_eq 2 0 (by decide)
  have e2 : putT 8000 magicB = (PutV.txt 8000 magicB).bytes := putT_eq 8000 magicB (by decide)
  rw [e0, e2]
  unfold lackP
  simp [putsB]

set_option maxHeartbeats 3200000 in
set_option maxRecDepth 100000 in
theorem law_PostLacks (A : Option Addr) (n c : Nat) (bs : List Nat) (how : Int) (w : World) (hb : Sl w A n c (nats .u8 bs)) (hbs : ∀ x ∈ bs, x < 256) (hh : 0 ≤ how ∧ how < 256) :
    Calls Try.prog 9 #[.slice A n c, .int .u8 how] w fun e w' => e = .returned (.bool true) ∧ Below w.heap.size w w' := by
  obtain ⟨h, rfl⟩ : ∃ n : Nat, how = n := ⟨how.toNat, by omega⟩
  have hh2 : h < 256 := by omega
  clear hh
  have hle := hb.le
  have hmax := hb.max
  unfold maxLen at hmax
  have hlen := hb.len
  rw [nats_length] at hlen
  by_cases hn : n ≤ 50
  · have Hb := Lib.hid hb
    have Hbs := Lib.hid hbs
    have Hlen := Lib.hid hlen
    have hq := fun w h => run_convert_sl (w := w) (P := Try.prog) Try.underlying22 Try.underlying5 Try.underlying9 (h : Sl w A n c (nats .u8 bs))
    have Hq := Lib.hid hq
    clear hb hbs hlen hq
    by_cases hm : bs = magicB
    · subst hm
      go_enter Try.func9, Try.ntmps9
      go_wp2_with fail
      refine (known20 w).mono ?_
      rintro e w1 ⟨rfl, b1⟩
      have q1 := Hq.out w1 (Hb.out.keep b1)
      rw [magic_str] at q1
      go_wp2_with fail
      go_ret
      exact ⟨rfl, b1⟩
    · have hms : (strOf bs).toList ≠ [79, 82, 67] := fun e => hm (strOf_list_inj bs magicB Hbs.out (by decide) (e.trans magic_list.symm))
      have hmt : ((strOf bs).toList == [79, 82, 67]) = false := beq_eq_false_iff_ne.2 hms
      have Hm := Lib.hid hm
      clear hm hms
      go_enter Try.func9, Try.ntmps9
      go_wp2_with fail
      refine (known20 w).mono ?_
      rintro e w1 ⟨rfl, b1⟩
      have q1 := Hq.out w1 (Hb.out.keep b1)
      have B1 := Lib.hid b1
      clear b1
      generalize strOf bs = str at *
      go_wp2_with fail
      have hw1 := B1.out.size
      refine (putuint_rg w1.heap.size 0 [] 2 0 (.slice none 0 0) w1 (World.ownsRow_nil _ _ _ _) (Nat.le_refl _) (by omega) (by omega)).mono ?_
      rintro e w2 ⟨v2, rfl, o2, b2, _⟩
      have h22 := putU_len 2 0
      generalize hm2 : 0 + (putU 2 0).length = m2 at *
      have hmm2 : m2 ≤ 20 := by omega
      have hs2 := b2.size
      clear hm2 h22
      have h3 : h % 3 = 0 ∨ h % 3 = 1 ∨ h % 3 = 2 := by omega
      have hmod : ((h : Int) % 3) = ((h % 3 : Nat) : Int) := by omega
      generalize h % 3 = r at *
      have kc := fun (w : World) (C : Array Value) (n c : Nat) => Lib.run_convert_bytes_const (P := Try.prog) w 22 5 C n c Try.underlying22 Try.underlying5
      rcases h3 with rfl | rfl | rfl
      · skip
        go_wp2_with fail
        refine (putuint_rg w1.heap.size m2 _ 1 5 v2 w2 o2 hs2 (by omega) (by omega)).mono ?_
        rintro e wz ⟨vz, rfl, oz, bz', _⟩
        have h23 := putU_len 1 5
        generalize hmz : m2 + (putU 1 5).length = mz at *
        have hmmz : mz ≤ 1000 := by omega
        have bz := b2.trans bz'
        clear hmz h23 bz' b2 o2 hs2 kc hmod
        have e : putsB (lackP 0 bs) = ([] ++ putU 2 0) ++ putU 1 5 := by rw [lack_bytes_0]
        obtain ⟨hfac, _⟩ := lack_facts 0 bs (by rw [Hlen.out]; exact hn) Hbs.out
        have hby := putsB_byte _ fun p hp => (hfac p hp).2.2
        have hld := lack_dec 0 bs (by rw [Hlen.out]; exact hn) Hbs.out Hm.out
        rw [e] at hby hld
        obtain ⟨AA, cA, rfl, sA⟩ := Sl.of_own oz (nats_one _ _)
        have hd := decode_p AA mz cA _ wz sA hby (by omega)
        rw [hld] at hd
        have hr := fun w h => rdecode_p AA mz cA _ w h hby (by omega)
        rw [hld] at hr
        have Hd := Lib.hid hd
        have Hr := Lib.hid hr
        have HsA := Lib.hid sA
        have Bz := Lib.hid (B1.out.trans (bz.mono B1.out.size))
        clear e hfac hby hld hd hr sA oz bz
        go_wp2_with fail
        refine Hd.out.mono ?_
        rintro e wy ⟨rfl, by_⟩
        unfold postV
        dsimp only [PostV.zero]
        have By := Lib.hid (Bz.out.trans (by_.mono Bz.out.size))
        have SA := Lib.hid (HsA.out.keep by_)
        clear by_
        go_wp2_with fail
        refine (Hr.out _ (SA.out.keep (below_new _ _))).mono ?_
        rintro e wx ⟨rfl, bx⟩
        have hbox := (bx.block wy.heap.size (by simp)).trans (heap_alloc_new wy _)
        have d0 : (wx.alloc (.cells #[.int .i64 0, .int .i64 0, .int .i64 0, .int .i64 0] 64)).cell? ⟨wy.heap.size, 0, none⟩ = some (.int .i64 0) := by rw [cell_of_row _ _ _ _ _ _ (((below_new wx _).block _ (Array.getElem?_eq_some_iff.1 hbox).1).trans hbox)]; rfl
        have d1 : (wx.alloc (.cells #[.int .i64 0, .int .i64 0, .int .i64 0, .int .i64 0] 64)).cell? ⟨wy.heap.size, 1, none⟩ = some (.int .i64 0) := by rw [cell_of_row _ _ _ _ _ _ (((below_new wx _).block _ (Array.getElem?_eq_some_iff.1 hbox).1).trans hbox)]; rfl
        have d2 : (wx.alloc (.cells #[.int .i64 0, .int .i64 0, .int .i64 0, .int .i64 0] 64)).cell? ⟨wy.heap.size, 2, none⟩ = some (.int .i64 0) := by rw [cell_of_row _ _ _ _ _ _ (((below_new wx _).block _ (Array.getElem?_eq_some_iff.1 hbox).1).trans hbox)]; rfl
        have d3 : (wx.alloc (.cells #[.int .i64 0, .int .i64 0, .int .i64 0, .int .i64 0] 64)).cell? ⟨wy.heap.size, 3, none⟩ = some (.int .i64 0) := by rw [cell_of_row _ _ _ _ _ _ (((below_new wx _).block _ (Array.getElem?_eq_some_iff.1 hbox).1).trans hbox)]; rfl
        have Bx := Lib.hid ((By.out.alloc By.out.size (.cells #[.int .i64 0, .int .i64 0, .int .i64 0, .int .i64 0] 61)).trans (bx.mono (by have := By.out.size; simp; omega)))
        unfold postV
        dsimp only [PostV.zero]
        clear bx hbox
        go_wp2_with fail
        go_ret
        exact ⟨by first | rfl | simp, Bx.out.alloc Bx.out.size _⟩
      · skip
        go_wp2_with fail
        refine (putuint_rg w1.heap.size m2 _ 1 5 v2 w2 o2 hs2 (by omega) (by omega)).mono ?_
        rintro e w3 ⟨v3, rfl, o3, b3, _⟩
        have h23 := putU_len 1 5
        generalize hm3 : m2 + (putU 1 5).length = m3 at *
        have hmm3 : m3 ≤ 40 := by omega
        have hs3 := b3.size
        have b13 := b2.trans b3
        clear hm3 h23 b2 b3 o2 hmod
        have hlow : ∀ w', Below w1.heap.size w3 w' → Sl w' A n c (nats .u8 bs) := fun w' hb => Hb.out.keep (B1.out.trans ((b13.trans hb).mono hw1))
        go_wp2_with fail
        refine (putbytes_rg w1.heap.size m3 _ 8000 v3 A n c bs w3 o3 b13.size (hlow _ (Below.refl _ _)) hlow (by omega) (by omega)).mono ?_
        rintro e wz ⟨vz, rfl, oz, bz', _⟩
        have h24 := putT_len 8000 bs
        generalize hmz : m3 + (putT 8000 bs).length = mz at *
        have hmmz : mz ≤ 1000 := by have := Hlen.out; omega
        have bz := b13.trans bz'
        clear hmz h24 bz' b13 o3 hlow kc
        have e : putsB (lackP 1 bs) = (([] ++ putU 2 0) ++ putU 1 5) ++ putT 8000 bs := by rw [lack_bytes_1]
        obtain ⟨hfac, _⟩ := lack_facts 1 bs (by rw [Hlen.out]; exact hn) Hbs.out
        have hby := putsB_byte _ fun p hp => (hfac p hp).2.2
        have hld := lack_dec 1 bs (by rw [Hlen.out]; exact hn) Hbs.out Hm.out
        rw [e] at hby hld
        obtain ⟨AA, cA, rfl, sA⟩ := Sl.of_own oz (nats_one _ _)
        have hd := decode_p AA mz cA _ wz sA hby (by omega)
        rw [hld] at hd
        have hr := fun w h => rdecode_p AA mz cA _ w h hby (by omega)
        rw [hld] at hr
        have Hd := Lib.hid hd
        have Hr := Lib.hid hr
        have HsA := Lib.hid sA
        have Bz := Lib.hid (B1.out.trans (bz.mono B1.out.size))
        clear e hfac hby hld hd hr sA oz bz
        go_wp2_with fail
        refine Hd.out.mono ?_
        rintro e wy ⟨rfl, by_⟩
        unfold postV
        dsimp only [PostV.zero]
        have By := Lib.hid (Bz.out.trans (by_.mono Bz.out.size))
        have SA := Lib.hid (HsA.out.keep by_)
        clear by_
        go_wp2_with fail
        refine (Hr.out _ (SA.out.keep (below_new _ _))).mono ?_
        rintro e wx ⟨rfl, bx⟩
        have hbox := (bx.block wy.heap.size (by simp)).trans (heap_alloc_new wy _)
        have d0 : (wx.alloc (.cells #[.int .i64 0, .int .i64 0, .int .i64 0, .int .i64 0] 64)).cell? ⟨wy.heap.size, 0, none⟩ = some (.int .i64 0) := by rw [cell_of_row _ _ _ _ _ _ (((below_new wx _).block _ (Array.getElem?_eq_some_iff.1 hbox).1).trans hbox)]; rfl
        have d1 : (wx.alloc (.cells #[.int .i64 0, .int .i64 0, .int .i64 0, .int .i64 0] 64)).cell? ⟨wy.heap.size, 1, none⟩ = some (.int .i64 0) := by rw [cell_of_row _ _ _ _ _ _ (((below_new wx _).block _ (Array.getElem?_eq_some_iff.1 hbox).1).trans hbox)]; rfl
        have d2 : (wx.alloc (.cells #[.int .i64 0, .int .i64 0, .int .i64 0, .int .i64 0] 64)).cell? ⟨wy.heap.size, 2, none⟩ = some (.int .i64 0) := by rw [cell_of_row _ _ _ _ _ _ (((below_new wx _).block _ (Array.getElem?_eq_some_iff.1 hbox).1).trans hbox)]; rfl
        have d3 : (wx.alloc (.cells #[.int .i64 0, .int .i64 0, .int .i64 0, .int .i64 0] 64)).cell? ⟨wy.heap.size, 3, none⟩ = some (.int .i64 0) := by rw [cell_of_row _ _ _ _ _ _ (((below_new wx _).block _ (Array.getElem?_eq_some_iff.1 hbox).1).trans hbox)]; rfl
        have Bx := Lib.hid ((By.out.alloc By.out.size (.cells #[.int .i64 0, .int .i64 0, .int .i64 0, .int .i64 0] 61)).trans (bx.mono (by have := By.out.size; simp; omega)))
        unfold postV
        dsimp only [PostV.zero]
        clear bx hbox
        go_wp2_with fail
        go_ret
        exact ⟨by first | rfl | simp, Bx.out.alloc Bx.out.size _⟩
      · skip
        have sl2 : Sl (w2.alloc (.cells #[.int .u8 79, .int .u8 82, .int .u8 67] 5 (3, 4))) (some ⟨w2.heap.size, 0, none⟩) 3 3 (nats .u8 magicB) := Sl.litw w2 [.int .u8 79, .int .u8 82, .int .u8 67] 3 _ (3, 4) rfl (by decide) (by decide)
        have Sl2 := Lib.hid sl2
        have O2 := Lib.hid (o2.alloc (.cells #[.int .u8 79, .int .u8 82, .int .u8 67] 5 (3, 4)))
        have hlt2 : ∀ k, v2.ownBlock = some k → k < w2.heap.size := fun k hk => (o2.lt k hk).2
        have Hlt2 := Lib.hid hlt2
        clear sl2 hlt2 o2
        go_wp2_with fail
        refine (putbytes_rh w1.heap.size m2 _ 8000 v2 (some ⟨w2.heap.size, 0, none⟩) 3 3 magicB _ O2.out (by simp; omega) Sl2.out (fun w' v' _ hG => hG.low Sl2.out (fun ad had e => by injection had with had; subst had; have := Hlt2.out _ e.symm; simp at this)) (by omega) (by omega)).mono ?_
        rintro e wz ⟨vz, rfl, oz, bz', _⟩
        have h24 := putT_len 8000 magicB
        generalize hmz : m2 + (putT 8000 magicB).length = mz at *
        have hmmz : mz ≤ 1000 := by have hmag : magicB.length = 3 := rfl; omega
        have bz := (b2.alloc (Nat.le_trans (Nat.le_refl _) hs2) (.cells #[.int .u8 79, .int .u8 82, .int .u8 67] 5 (3, 4))).trans bz'
        clear hmz h24 bz' b2 kc hmod
        have e : putsB (lackP 2 bs) = ([] ++ putU 2 0) ++ putT 8000 magicB := by rw [lack_bytes_2]
        obtain ⟨hfac, _⟩ := lack_facts 2 bs (by rw [Hlen.out]; exact hn) Hbs.out
        have hby := putsB_byte _ fun p hp => (hfac p hp).2.2
        have hld := lack_dec 2 bs (by rw [Hlen.out]; exact hn) Hbs.out Hm.out
        rw [e] at hby hld
        obtain ⟨AA, cA, rfl, sA⟩ := Sl.of_own oz (nats_one _ _)
        have hd := decode_p AA mz cA _ wz sA hby (by omega)
        rw [hld] at hd
        have hr := fun w h => rdecode_p AA mz cA _ w h hby (by omega)
        rw [hld] at hr
        have Hd := Lib.hid hd
        have Hr := Lib.hid hr
        have HsA := Lib.hid sA
        have Bz := Lib.hid (B1.out.trans (bz.mono B1.out.size))
        clear e hfac hby hld hd hr sA oz bz
        go_wp2_with fail
        refine Hd.out.mono ?_
        rintro e wy ⟨rfl, by_⟩
        unfold postV
        dsimp only [PostV.zero]
        have By := Lib.hid (Bz.out.trans (by_.mono Bz.out.size))
        have SA := Lib.hid (HsA.out.keep by_)
        clear by_
        go_wp2_with fail
        refine (Hr.out _ (SA.out.keep (below_new _ _))).mono ?_
        rintro e wx ⟨rfl, bx⟩
        have hbox := (bx.block wy.heap.size (by simp)).trans (heap_alloc_new wy _)
        have d0 : (wx.alloc (.cells #[.int .i64 0, .int .i64 0, .int .i64 0, .int .i64 0] 64)).cell? ⟨wy.heap.size, 0, none⟩ = some (.int .i64 0) := by rw [cell_of_row _ _ _ _ _ _ (((below_new wx _).block _ (Array.getElem?_eq_some_iff.1 hbox).1).trans hbox)]; rfl
        have d1 : (wx.alloc (.cells #[.int .i64 0, .int .i64 0, .int .i64 0, .int .i64 0] 64)).cell? ⟨wy.heap.size, 1, none⟩ = some (.int .i64 0) := by rw [cell_of_row _ _ _ _ _ _ (((below_new wx _).block _ (Array.getElem?_eq_some_iff.1 hbox).1).trans hbox)]; rfl
        have d2 : (wx.alloc (.cells #[.int .i64 0, .int .i64 0, .int .i64 0, .int .i64 0] 64)).cell? ⟨wy.heap.size, 2, none⟩ = some (.int .i64 0) := by rw [cell_of_row _ _ _ _ _ _ (((below_new wx _).block _ (Array.getElem?_eq_some_iff.1 hbox).1).trans hbox)]; rfl
        have d3 : (wx.alloc (.cells #[.int .i64 0, .int .i64 0, .int .i64 0, .int .i64 0] 64)).cell? ⟨wy.heap.size, 3, none⟩ = some (.int .i64 0) := by rw [cell_of_row _ _ _ _ _ _ (((below_new wx _).block _ (Array.getElem?_eq_some_iff.1 hbox).1).trans hbox)]; rfl
        have Bx := Lib.hid ((By.out.alloc By.out.size (.cells #[.int .i64 0, .int .i64 0, .int .i64 0, .int .i64 0] 61)).trans (bx.mono (by have := By.out.size; simp; omega)))
        unfold postV
        dsimp only [PostV.zero]
        clear bx hbox
        go_wp2_with fail
        go_ret
        exact ⟨by first | rfl | simp, Bx.out.alloc Bx.out.size _⟩
  · have hn2 : 50 < n := by omega
    clear hn hlen hb hbs
    go_enter Try.func9, Try.ntmps9
    go_wp2_with fail
    refine (known20 w).mono ?_
    rintro e w1 ⟨rfl, b1⟩
    go_wp2_with fail
    go_ret
    exact ⟨rfl, b1⟩
end Go.Proofs.Ytihclbiohljmlaa
