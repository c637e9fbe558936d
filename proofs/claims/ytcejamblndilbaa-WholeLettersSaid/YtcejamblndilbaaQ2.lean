/- The document's Only. -/
import Derived.Test.YtcejamblndilbaaQ1
namespace Go.Proofs.Ytcejamblndilbaa
open Go.RowKit

/-- what its kind names alone -/
def onlyOf (m : Ms) : Ms :=
  if m.kind = 1 ∨ m.kind = 3 then { bareOf m with index := m.index, logTerm := m.logTerm }
  else if m.kind = 2 ∨ m.kind = 4 then { bareOf m with ok := m.ok }
  else if m.kind = 5 then { bareOf m with index := m.index, logTerm := m.logTerm, commit := m.commit, ea := m.ea, en := m.en, ecap := m.ecap, es := m.es }
  else if m.kind = 6 then { bareOf m with index := m.index, ok := m.ok }
  else if m.kind = 7 then { bareOf m with index := m.index, logTerm := m.logTerm, c := m.c, off := m.off, d := m.d, last := m.last }
  else if m.kind = 8 then { bareOf m with index := m.index, off := m.off, last := m.last }
  else bareOf m
/-- storing a field -/
theorem set_field {w : World} {C i : Nat} {m m' : Ms} {t : TypeId} {v : Value} (h : w.heap[C]? = some (.cells m.cs t (0, 0))) (hc : m.cs.setIfInBounds i v = m'.cs) : (w.setCell ⟨C, i, none⟩ v).heap[C]? = some (.cells m'.cs t (0, 0)) := by
  rw [← hc]; exact set_block (i := i) h v

set_option maxRecDepth 100000 in
set_option maxHeartbeats 16000000 in
theorem only_any (m : Ms) (w : World) : Calls Try.prog 40 #[.agg m.cs] w (RetBox w (.agg (onlyOf m).cs)) := by
  obtain ⟨X, hX⟩ : ∃ X, X = (w.alloc (.cells m.cs 28)).alloc (.cells zeroM.cs 28) := ⟨_, rfl⟩
  have hXb : Below w.heap.size w X := hX ▸ below_alloc (below_alloc (Below.refl _ _) _) _
  have hXs : X.heap.size = w.heap.size + 2 := by rw [hX, World.size_alloc, World.size_alloc]
  have hXa : X.heap[w.heap.size]? = some (.cells m.cs 28 (0, 0)) := hX ▸ (heap_alloc_old _ _ (by rw [World.size_alloc]; omega)).trans (heap_alloc_new w _)
  have hXc : X.heap[w.heap.size + 1]? = some (.cells zeroM.cs 28 (0, 0)) := by have := heap_alloc_new (w.alloc (.cells m.cs 28)) (.cells zeroM.cs 28); rw [World.size_alloc] at this; rw [hX]; exact this
  obtain ⟨post, hpost⟩ : ∃ post, post = RetBox w (.agg (onlyOf m).cs) := ⟨_, rfl⟩
  rw [← hpost]
  have hfin : ∀ (o : Ms) (w' : World), o = onlyOf m → Below w.heap.size w w' → post (.returned (.agg o.cs)) w' := fun o w' ho hb => by rw [hpost, ho]; exact ⟨rfl, hb⟩
  have HX := Lib.hid hX
  have HXS := Lib.hid hXs
  have HXB := Lib.hid hXb
  have HXA := Lib.hid hXa
  have HXC := Lib.hid hXc
  have HFIN := Lib.hid hfin
  clear hX hXb hXs hXa hXc hpost hfin
  obtain ⟨kind, fr, tt, term, index, logTerm, commit, ok, ea, en, ecap, es, off, d, last, c⟩ := m
  simp only [Ms.cs, zeroM] at HX ⊢
  have hbare := fun Z => bare_any ⟨kind, fr, tt, term, index, logTerm, commit, ok, ea, en, ecap, es, off, d, last, c⟩ Z
  have HBARE := Lib.hid hbare
  clear hbare
  go_enter Try.func40, Try.ntmps40
  go_upto_region 1 with fail
  rw [← HX.out]
  go_wp2_with (first
    | (refine wpList_loadM rfl _ rfl w.heap.size ⟨kind, fr, tt, term, index, logTerm, commit, ok, ea, en, ecap, es, off, d, last, c⟩ _ rfl HXA.out ?_))
  refine (HBARE.out _).mono ?_
  rintro e w1 ⟨rfl, hb1⟩
  obtain ⟨Y, hY⟩ : ∃ Y, Y = w1.alloc (.cells zeroM.cs 28) := ⟨_, rfl⟩
  have hYc : Y.heap[w1.heap.size]? = some (.cells zeroM.cs 28 (0, 0)) := hY ▸ heap_alloc_new w1 _
  have hYb := below_then hb1 (hY ▸ below_alloc (Below.refl _ _) _ : Below w1.heap.size w1 Y)
  have hR : ∀ W, Touch [w1.heap.size] Y W → W.heap[w.heap.size + 1]? = some (.cells zeroM.cs 28 (0, 0)) := fun W hW => by
    have h1 : w.heap.size + 1 < X.heap.size := by rw [HXS.out]; omega
    have h2 := hb1.size
    have h3 := hYb.size
    exact (hW.block _ (by omega) (by simp; omega)).trans ((hYb.block _ h1).trans HXC.out)
  have hA : Y.heap[w.heap.size]? = some (.cells (Ms.cs ⟨kind, fr, tt, term, index, logTerm, commit, ok, ea, en, ecap, es, off, d, last, c⟩) 28 (0, 0)) := (hYb.block _ (by rw [HXS.out]; omega)).trans HXA.out
  have hsz : w.heap.size + 2 ≤ w1.heap.size := by have := hb1.size; rw [HXS.out] at this; omega
  have HY := Lib.hid hY
  have HYC := Lib.hid hYc
  have HYB := Lib.hid (below_then HXB.out hYb)
  have HR := Lib.hid hR
  have HA := Lib.hid hA
  have HSZ := Lib.hid hsz
  clear hb1 hY hYc hYb hR hA hsz
  simp only [zeroM, Ms.cs] at HY
  go_upto_region 2 with (first
    | (refine wpList_storeM rfl _ _ rfl w1.heap.size (bareOf ⟨kind, fr, tt, term, index, logTerm, commit, ok, ea, en, ecap, es, off, d, last, c⟩) zeroM rfl rfl _ (by first | exact HYC.out | (rw [← HY.out]; exact HYC.out)) ?_; rw [← HY.out]; intro w2 hd2 ht2; have HD2 := Lib.hid hd2; have HT2 := Lib.hid ht2; clear hd2 ht2))
  obtain ⟨a0, a1, a2, a3, a4, a5, a6, a7, a8, a9, a10, a11, a12, a13⟩ := ms_cells ((HT2.out.block _ (Array.getElem?_eq_some_iff.1 HA.out).1 (by have := HSZ.out; simp; omega)).trans HA.out)
  obtain ⟨b0, b1, b2, b3, b4, b5, b6, b7, b8, b9, b10, b11, b12, b13⟩ := ms_cells HD2.out
  have hfz : ∀ i, w2.frozen? ⟨w1.heap.size, i, none⟩ = false := fun i => by simp [World.frozen?, HD2.out]
  obtain ⟨f4, f5, f6, f7, f8, f9, f10, f11, f12, f13⟩ := (⟨hfz 4, hfz 5, hfz 6, hfz 7, hfz 8, hfz 9, hfz 10, hfz 11, hfz 12, hfz 13⟩ : _ ∧ _ ∧ _ ∧ _ ∧ _ ∧ _ ∧ _ ∧ _ ∧ _ ∧ _)
  have hne : w.heap.size ≠ w1.heap.size := by have := HSZ.out; omega
  have HNE := Lib.hid hne
  simp only [bareOf] at HD2 b0 b1 b2 b3 b4 b5 b6 b7 b8 b9 b10 b11 b12 b13
  simp only at a0 a1 a2 a3 a4 a5 a6 a7 a8 a9 a10 a11 a12 a13
  clear hfz hne
  by_cases k1 : kind = 1
  · subst k1
    have hfc := (set_field (i := 5) (v := (.int .i64 logTerm)) (m' := (⟨1, fr, tt, term, index, logTerm, 0, false, none, 0, 0, [], 0, ⟨none, 0, 0, []⟩, false, ⟨⟨none, 0, 0, []⟩, ⟨none, 0, 0, []⟩⟩⟩ : Ms)) (set_field (i := 4) (v := (.int .i64 index)) (m' := (⟨1, fr, tt, term, index, 0, 0, false, none, 0, 0, [], 0, ⟨none, 0, 0, []⟩, false, ⟨⟨none, 0, 0, []⟩, ⟨none, 0, 0, []⟩⟩⟩ : Ms)) HD2.out (by kernel_rfl)) (by kernel_rfl))
    have HFC := Lib.hid hfc
    have HFT := fun W (h : Touch [w1.heap.size] w2 W) => HR.out W (HT2.out.trans h)
    have HFB := fun W (h : Touch [w1.heap.size] w2 W) => below_of_touch HYB.out (HT2.out.trans h) (by have := HSZ.out; omega)
    have HFT2 := Lib.hid HFT
    have HFB2 := Lib.hid HFB
    clear hfc HFT HFB
    go_upto_region 29 with fail
    go_wp2_with (first
      | (refine wpList_loadM rfl _ rfl w1.heap.size (⟨1, fr, tt, term, index, logTerm, 0, false, none, 0, 0, [], 0, ⟨none, 0, 0, []⟩, false, ⟨⟨none, 0, 0, []⟩, ⟨none, 0, 0, []⟩⟩⟩ : Ms) _ rfl HFC.out ?_)
      | (refine wpList_storeM rfl _ _ rfl (w.heap.size + 1) (⟨1, fr, tt, term, index, logTerm, 0, false, none, 0, 0, [], 0, ⟨none, 0, 0, []⟩, false, ⟨⟨none, 0, 0, []⟩, ⟨none, 0, 0, []⟩⟩⟩ : Ms) zeroM rfl rfl _ (HFT2.out _ (touch_set (touch_set (Touch.refl [w1.heap.size] w2) w1.heap.size 4 (.int .i64 index) (by simp)) w1.heap.size 5 (.int .i64 logTerm) (by simp))) ?_; intro w3 hd3 ht3; have HD3 := Lib.hid hd3; have HT3 := Lib.hid ht3; clear hd3 ht3))
    exact bodyPost_ret (results_cell Try.results40 rfl (load_msg HD3.out)) rfl (HFIN.out _ _ (by simp [onlyOf, bareOf]) (below_of_touch (HFB2.out _ (touch_set (touch_set (Touch.refl [w1.heap.size] w2) w1.heap.size 4 (.int .i64 index) (by simp)) w1.heap.size 5 (.int .i64 logTerm) (by simp))) HT3.out (by omega)))
  by_cases k3 : kind = 3
  · subst k3
    have hfc := (set_field (i := 5) (v := (.int .i64 logTerm)) (m' := (⟨3, fr, tt, term, index, logTerm, 0, false, none, 0, 0, [], 0, ⟨none, 0, 0, []⟩, false, ⟨⟨none, 0, 0, []⟩, ⟨none, 0, 0, []⟩⟩⟩ : Ms)) (set_field (i := 4) (v := (.int .i64 index)) (m' := (⟨3, fr, tt, term, index, 0, 0, false, none, 0, 0, [], 0, ⟨none, 0, 0, []⟩, false, ⟨⟨none, 0, 0, []⟩, ⟨none, 0, 0, []⟩⟩⟩ : Ms)) HD2.out (by kernel_rfl)) (by kernel_rfl))
    have HFC := Lib.hid hfc
    have HFT := fun W (h : Touch [w1.heap.size] w2 W) => HR.out W (HT2.out.trans h)
    have HFB := fun W (h : Touch [w1.heap.size] w2 W) => below_of_touch HYB.out (HT2.out.trans h) (by have := HSZ.out; omega)
    have HFT2 := Lib.hid HFT
    have HFB2 := Lib.hid HFB
    clear hfc HFT HFB
    go_upto_region 29 with fail
    go_wp2_with (first
      | (refine wpList_loadM rfl _ rfl w1.heap.size (⟨3, fr, tt, term, index, logTerm, 0, false, none, 0, 0, [], 0, ⟨none, 0, 0, []⟩, false, ⟨⟨none, 0, 0, []⟩, ⟨none, 0, 0, []⟩⟩⟩ : Ms) _ rfl HFC.out ?_)
      | (refine wpList_storeM rfl _ _ rfl (w.heap.size + 1) (⟨3, fr, tt, term, index, logTerm, 0, false, none, 0, 0, [], 0, ⟨none, 0, 0, []⟩, false, ⟨⟨none, 0, 0, []⟩, ⟨none, 0, 0, []⟩⟩⟩ : Ms) zeroM rfl rfl _ (HFT2.out _ (touch_set (touch_set (Touch.refl [w1.heap.size] w2) w1.heap.size 4 (.int .i64 index) (by simp)) w1.heap.size 5 (.int .i64 logTerm) (by simp))) ?_; intro w3 hd3 ht3; have HD3 := Lib.hid hd3; have HT3 := Lib.hid ht3; clear hd3 ht3))
    exact bodyPost_ret (results_cell Try.results40 rfl (load_msg HD3.out)) rfl (HFIN.out _ _ (by simp [onlyOf, bareOf]) (below_of_touch (HFB2.out _ (touch_set (touch_set (Touch.refl [w1.heap.size] w2) w1.heap.size 4 (.int .i64 index) (by simp)) w1.heap.size 5 (.int .i64 logTerm) (by simp))) HT3.out (by omega)))
  by_cases k2 : kind = 2
  · subst k2
    have hfc := (set_field (i := 7) (v := (.bool ok)) (m' := (⟨2, fr, tt, term, 0, 0, 0, ok, none, 0, 0, [], 0, ⟨none, 0, 0, []⟩, false, ⟨⟨none, 0, 0, []⟩, ⟨none, 0, 0, []⟩⟩⟩ : Ms)) HD2.out (by kernel_rfl))
    have HFC := Lib.hid hfc
    have HFT := fun W (h : Touch [w1.heap.size] w2 W) => HR.out W (HT2.out.trans h)
    have HFB := fun W (h : Touch [w1.heap.size] w2 W) => below_of_touch HYB.out (HT2.out.trans h) (by have := HSZ.out; omega)
    have HFT2 := Lib.hid HFT
    have HFB2 := Lib.hid HFB
    clear hfc HFT HFB
    go_upto_region 29 with fail
    go_wp2_with (first
      | (refine wpList_loadM rfl _ rfl w1.heap.size (⟨2, fr, tt, term, 0, 0, 0, ok, none, 0, 0, [], 0, ⟨none, 0, 0, []⟩, false, ⟨⟨none, 0, 0, []⟩, ⟨none, 0, 0, []⟩⟩⟩ : Ms) _ rfl HFC.out ?_)
      | (refine wpList_storeM rfl _ _ rfl (w.heap.size + 1) (⟨2, fr, tt, term, 0, 0, 0, ok, none, 0, 0, [], 0, ⟨none, 0, 0, []⟩, false, ⟨⟨none, 0, 0, []⟩, ⟨none, 0, 0, []⟩⟩⟩ : Ms) zeroM rfl rfl _ (HFT2.out _ (touch_set (Touch.refl [w1.heap.size] w2) w1.heap.size 7 (.bool ok) (by simp))) ?_; intro w3 hd3 ht3; have HD3 := Lib.hid hd3; have HT3 := Lib.hid ht3; clear hd3 ht3))
    exact bodyPost_ret (results_cell Try.results40 rfl (load_msg HD3.out)) rfl (HFIN.out _ _ (by simp [onlyOf, bareOf]) (below_of_touch (HFB2.out _ (touch_set (Touch.refl [w1.heap.size] w2) w1.heap.size 7 (.bool ok) (by simp))) HT3.out (by omega)))
  by_cases k4 : kind = 4
  · subst k4
    have hfc := (set_field (i := 7) (v := (.bool ok)) (m' := (⟨4, fr, tt, term, 0, 0, 0, ok, none, 0, 0, [], 0, ⟨none, 0, 0, []⟩, false, ⟨⟨none, 0, 0, []⟩, ⟨none, 0, 0, []⟩⟩⟩ : Ms)) HD2.out (by kernel_rfl))
    have HFC := Lib.hid hfc
    have HFT := fun W (h : Touch [w1.heap.size] w2 W) => HR.out W (HT2.out.trans h)
    have HFB := fun W (h : Touch [w1.heap.size] w2 W) => below_of_touch HYB.out (HT2.out.trans h) (by have := HSZ.out; omega)
    have HFT2 := Lib.hid HFT
    have HFB2 := Lib.hid HFB
    clear hfc HFT HFB
    go_upto_region 29 with fail
    go_wp2_with (first
      | (refine wpList_loadM rfl _ rfl w1.heap.size (⟨4, fr, tt, term, 0, 0, 0, ok, none, 0, 0, [], 0, ⟨none, 0, 0, []⟩, false, ⟨⟨none, 0, 0, []⟩, ⟨none, 0, 0, []⟩⟩⟩ : Ms) _ rfl HFC.out ?_)
      | (refine wpList_storeM rfl _ _ rfl (w.heap.size + 1) (⟨4, fr, tt, term, 0, 0, 0, ok, none, 0, 0, [], 0, ⟨none, 0, 0, []⟩, false, ⟨⟨none, 0, 0, []⟩, ⟨none, 0, 0, []⟩⟩⟩ : Ms) zeroM rfl rfl _ (HFT2.out _ (touch_set (Touch.refl [w1.heap.size] w2) w1.heap.size 7 (.bool ok) (by simp))) ?_; intro w3 hd3 ht3; have HD3 := Lib.hid hd3; have HT3 := Lib.hid ht3; clear hd3 ht3))
    exact bodyPost_ret (results_cell Try.results40 rfl (load_msg HD3.out)) rfl (HFIN.out _ _ (by simp [onlyOf, bareOf]) (below_of_touch (HFB2.out _ (touch_set (Touch.refl [w1.heap.size] w2) w1.heap.size 7 (.bool ok) (by simp))) HT3.out (by omega)))
  by_cases k5 : kind = 5
  · subst k5
    have hfc := (set_field (i := 8) (v := (.slice ea en ecap)) (m' := (⟨5, fr, tt, term, index, logTerm, commit, false, ea, en, ecap, es, 0, ⟨none, 0, 0, []⟩, false, ⟨⟨none, 0, 0, []⟩, ⟨none, 0, 0, []⟩⟩⟩ : Ms)) (set_field (i := 6) (v := (.int .i64 commit)) (m' := (⟨5, fr, tt, term, index, logTerm, commit, false, none, 0, 0, [], 0, ⟨none, 0, 0, []⟩, false, ⟨⟨none, 0, 0, []⟩, ⟨none, 0, 0, []⟩⟩⟩ : Ms)) (set_field (i := 5) (v := (.int .i64 logTerm)) (m' := (⟨5, fr, tt, term, index, logTerm, 0, false, none, 0, 0, [], 0, ⟨none, 0, 0, []⟩, false, ⟨⟨none, 0, 0, []⟩, ⟨none, 0, 0, []⟩⟩⟩ : Ms)) (set_field (i := 4) (v := (.int .i64 index)) (m' := (⟨5, fr, tt, term, index, 0, 0, false, none, 0, 0, [], 0, ⟨none, 0, 0, []⟩, false, ⟨⟨none, 0, 0, []⟩, ⟨none, 0, 0, []⟩⟩⟩ : Ms)) HD2.out (by kernel_rfl)) (by kernel_rfl)) (by kernel_rfl)) (by kernel_rfl))
    have HFC := Lib.hid hfc
    have HFT := fun W (h : Touch [w1.heap.size] w2 W) => HR.out W (HT2.out.trans h)
    have HFB := fun W (h : Touch [w1.heap.size] w2 W) => below_of_touch HYB.out (HT2.out.trans h) (by have := HSZ.out; omega)
    have HFT2 := Lib.hid HFT
    have HFB2 := Lib.hid HFB
    clear hfc HFT HFB
    go_upto_region 29 with fail
    go_wp2_with (first
      | (refine wpList_loadM rfl _ rfl w1.heap.size (⟨5, fr, tt, term, index, logTerm, commit, false, ea, en, ecap, es, 0, ⟨none, 0, 0, []⟩, false, ⟨⟨none, 0, 0, []⟩, ⟨none, 0, 0, []⟩⟩⟩ : Ms) _ rfl HFC.out ?_)
      | (refine wpList_storeM rfl _ _ rfl (w.heap.size + 1) (⟨5, fr, tt, term, index, logTerm, commit, false, ea, en, ecap, es, 0, ⟨none, 0, 0, []⟩, false, ⟨⟨none, 0, 0, []⟩, ⟨none, 0, 0, []⟩⟩⟩ : Ms) zeroM rfl rfl _ (HFT2.out _ (touch_set (touch_set (touch_set (touch_set (Touch.refl [w1.heap.size] w2) w1.heap.size 4 (.int .i64 index) (by simp)) w1.heap.size 5 (.int .i64 logTerm) (by simp)) w1.heap.size 6 (.int .i64 commit) (by simp)) w1.heap.size 8 (.slice ea en ecap) (by simp))) ?_; intro w3 hd3 ht3; have HD3 := Lib.hid hd3; have HT3 := Lib.hid ht3; clear hd3 ht3))
    exact bodyPost_ret (results_cell Try.results40 rfl (load_msg HD3.out)) rfl (HFIN.out _ _ (by simp [onlyOf, bareOf]) (below_of_touch (HFB2.out _ (touch_set (touch_set (touch_set (touch_set (Touch.refl [w1.heap.size] w2) w1.heap.size 4 (.int .i64 index) (by simp)) w1.heap.size 5 (.int .i64 logTerm) (by simp)) w1.heap.size 6 (.int .i64 commit) (by simp)) w1.heap.size 8 (.slice ea en ecap) (by simp))) HT3.out (by omega)))
  by_cases k6 : kind = 6
  · subst k6
    have hfc := (set_field (i := 7) (v := (.bool ok)) (m' := (⟨6, fr, tt, term, index, 0, 0, ok, none, 0, 0, [], 0, ⟨none, 0, 0, []⟩, false, ⟨⟨none, 0, 0, []⟩, ⟨none, 0, 0, []⟩⟩⟩ : Ms)) (set_field (i := 4) (v := (.int .i64 index)) (m' := (⟨6, fr, tt, term, index, 0, 0, false, none, 0, 0, [], 0, ⟨none, 0, 0, []⟩, false, ⟨⟨none, 0, 0, []⟩, ⟨none, 0, 0, []⟩⟩⟩ : Ms)) HD2.out (by kernel_rfl)) (by kernel_rfl))
    have HFC := Lib.hid hfc
    have HFT := fun W (h : Touch [w1.heap.size] w2 W) => HR.out W (HT2.out.trans h)
    have HFB := fun W (h : Touch [w1.heap.size] w2 W) => below_of_touch HYB.out (HT2.out.trans h) (by have := HSZ.out; omega)
    have HFT2 := Lib.hid HFT
    have HFB2 := Lib.hid HFB
    clear hfc HFT HFB
    go_upto_region 29 with fail
    go_wp2_with (first
      | (refine wpList_loadM rfl _ rfl w1.heap.size (⟨6, fr, tt, term, index, 0, 0, ok, none, 0, 0, [], 0, ⟨none, 0, 0, []⟩, false, ⟨⟨none, 0, 0, []⟩, ⟨none, 0, 0, []⟩⟩⟩ : Ms) _ rfl HFC.out ?_)
      | (refine wpList_storeM rfl _ _ rfl (w.heap.size + 1) (⟨6, fr, tt, term, index, 0, 0, ok, none, 0, 0, [], 0, ⟨none, 0, 0, []⟩, false, ⟨⟨none, 0, 0, []⟩, ⟨none, 0, 0, []⟩⟩⟩ : Ms) zeroM rfl rfl _ (HFT2.out _ (touch_set (touch_set (Touch.refl [w1.heap.size] w2) w1.heap.size 4 (.int .i64 index) (by simp)) w1.heap.size 7 (.bool ok) (by simp))) ?_; intro w3 hd3 ht3; have HD3 := Lib.hid hd3; have HT3 := Lib.hid ht3; clear hd3 ht3))
    exact bodyPost_ret (results_cell Try.results40 rfl (load_msg HD3.out)) rfl (HFIN.out _ _ (by simp [onlyOf, bareOf]) (below_of_touch (HFB2.out _ (touch_set (touch_set (Touch.refl [w1.heap.size] w2) w1.heap.size 4 (.int .i64 index) (by simp)) w1.heap.size 7 (.bool ok) (by simp))) HT3.out (by omega)))
  by_cases k7 : kind = 7
  · subst k7
    have hfc := (set_field (i := 11) (v := (.bool last)) (m' := (⟨7, fr, tt, term, index, logTerm, 0, false, none, 0, 0, [], off, d, last, ⟨c.v, c.l⟩⟩ : Ms)) (set_field (i := 10) (v := (.slice d.a d.len d.cap)) (m' := (⟨7, fr, tt, term, index, logTerm, 0, false, none, 0, 0, [], off, d, false, ⟨c.v, c.l⟩⟩ : Ms)) (set_field (i := 9) (v := (.int .i64 off)) (m' := (⟨7, fr, tt, term, index, logTerm, 0, false, none, 0, 0, [], off, ⟨none, 0, 0, []⟩, false, ⟨c.v, c.l⟩⟩ : Ms)) (set_field (i := 13) (v := (.slice c.l.a c.l.len c.l.cap)) (m' := (⟨7, fr, tt, term, index, logTerm, 0, false, none, 0, 0, [], 0, ⟨none, 0, 0, []⟩, false, ⟨c.v, c.l⟩⟩ : Ms)) (set_field (i := 12) (v := (.slice c.v.a c.v.len c.v.cap)) (m' := (⟨7, fr, tt, term, index, logTerm, 0, false, none, 0, 0, [], 0, ⟨none, 0, 0, []⟩, false, ⟨c.v, ⟨none, 0, 0, []⟩⟩⟩ : Ms)) (set_field (i := 5) (v := (.int .i64 logTerm)) (m' := (⟨7, fr, tt, term, index, logTerm, 0, false, none, 0, 0, [], 0, ⟨none, 0, 0, []⟩, false, ⟨⟨none, 0, 0, []⟩, ⟨none, 0, 0, []⟩⟩⟩ : Ms)) (set_field (i := 4) (v := (.int .i64 index)) (m' := (⟨7, fr, tt, term, index, 0, 0, false, none, 0, 0, [], 0, ⟨none, 0, 0, []⟩, false, ⟨⟨none, 0, 0, []⟩, ⟨none, 0, 0, []⟩⟩⟩ : Ms)) HD2.out (by kernel_rfl)) (by kernel_rfl)) (by kernel_rfl)) (by kernel_rfl)) (by kernel_rfl)) (by kernel_rfl)) (by kernel_rfl))
    have HFC := Lib.hid hfc
    have HFT := fun W (h : Touch [w1.heap.size] w2 W) => HR.out W (HT2.out.trans h)
    have HFB := fun W (h : Touch [w1.heap.size] w2 W) => below_of_touch HYB.out (HT2.out.trans h) (by have := HSZ.out; omega)
    have HFT2 := Lib.hid HFT
    have HFB2 := Lib.hid HFB
    clear hfc HFT HFB
    go_upto_region 29 with fail
    go_wp2_with (first
      | (refine wpList_loadM rfl _ rfl w1.heap.size (⟨7, fr, tt, term, index, logTerm, 0, false, none, 0, 0, [], off, d, last, ⟨c.v, c.l⟩⟩ : Ms) _ rfl HFC.out ?_)
      | (refine wpList_storeM rfl _ _ rfl (w.heap.size + 1) (⟨7, fr, tt, term, index, logTerm, 0, false, none, 0, 0, [], off, d, last, ⟨c.v, c.l⟩⟩ : Ms) zeroM rfl rfl _ (HFT2.out _ (touch_set (touch_set (touch_set (touch_set (touch_set (touch_set (touch_set (Touch.refl [w1.heap.size] w2) w1.heap.size 4 (.int .i64 index) (by simp)) w1.heap.size 5 (.int .i64 logTerm) (by simp)) w1.heap.size 12 (.slice c.v.a c.v.len c.v.cap) (by simp)) w1.heap.size 13 (.slice c.l.a c.l.len c.l.cap) (by simp)) w1.heap.size 9 (.int .i64 off) (by simp)) w1.heap.size 10 (.slice d.a d.len d.cap) (by simp)) w1.heap.size 11 (.bool last) (by simp))) ?_; intro w3 hd3 ht3; have HD3 := Lib.hid hd3; have HT3 := Lib.hid ht3; clear hd3 ht3))
    exact bodyPost_ret (results_cell Try.results40 rfl (load_msg HD3.out)) rfl (HFIN.out _ _ (by simp [onlyOf, bareOf]) (below_of_touch (HFB2.out _ (touch_set (touch_set (touch_set (touch_set (touch_set (touch_set (touch_set (Touch.refl [w1.heap.size] w2) w1.heap.size 4 (.int .i64 index) (by simp)) w1.heap.size 5 (.int .i64 logTerm) (by simp)) w1.heap.size 12 (.slice c.v.a c.v.len c.v.cap) (by simp)) w1.heap.size 13 (.slice c.l.a c.l.len c.l.cap) (by simp)) w1.heap.size 9 (.int .i64 off) (by simp)) w1.heap.size 10 (.slice d.a d.len d.cap) (by simp)) w1.heap.size 11 (.bool last) (by simp))) HT3.out (by omega)))
  by_cases k8 : kind = 8
  · subst k8
    have hfc := (set_field (i := 11) (v := (.bool last)) (m' := (⟨8, fr, tt, term, index, 0, 0, false, none, 0, 0, [], off, ⟨none, 0, 0, []⟩, last, ⟨⟨none, 0, 0, []⟩, ⟨none, 0, 0, []⟩⟩⟩ : Ms)) (set_field (i := 9) (v := (.int .i64 off)) (m' := (⟨8, fr, tt, term, index, 0, 0, false, none, 0, 0, [], off, ⟨none, 0, 0, []⟩, false, ⟨⟨none, 0, 0, []⟩, ⟨none, 0, 0, []⟩⟩⟩ : Ms)) (set_field (i := 4) (v := (.int .i64 index)) (m' := (⟨8, fr, tt, term, index, 0, 0, false, none, 0, 0, [], 0, ⟨none, 0, 0, []⟩, false, ⟨⟨none, 0, 0, []⟩, ⟨none, 0, 0, []⟩⟩⟩ : Ms)) HD2.out (by kernel_rfl)) (by kernel_rfl)) (by kernel_rfl))
    have HFC := Lib.hid hfc
    have HFT := fun W (h : Touch [w1.heap.size] w2 W) => HR.out W (HT2.out.trans h)
    have HFB := fun W (h : Touch [w1.heap.size] w2 W) => below_of_touch HYB.out (HT2.out.trans h) (by have := HSZ.out; omega)
    have HFT2 := Lib.hid HFT
    have HFB2 := Lib.hid HFB
    clear hfc HFT HFB
    go_upto_region 29 with fail
    go_wp2_with (first
      | (refine wpList_loadM rfl _ rfl w1.heap.size (⟨8, fr, tt, term, index, 0, 0, false, none, 0, 0, [], off, ⟨none, 0, 0, []⟩, last, ⟨⟨none, 0, 0, []⟩, ⟨none, 0, 0, []⟩⟩⟩ : Ms) _ rfl HFC.out ?_)
      | (refine wpList_storeM rfl _ _ rfl (w.heap.size + 1) (⟨8, fr, tt, term, index, 0, 0, false, none, 0, 0, [], off, ⟨none, 0, 0, []⟩, last, ⟨⟨none, 0, 0, []⟩, ⟨none, 0, 0, []⟩⟩⟩ : Ms) zeroM rfl rfl _ (HFT2.out _ (touch_set (touch_set (touch_set (Touch.refl [w1.heap.size] w2) w1.heap.size 4 (.int .i64 index) (by simp)) w1.heap.size 9 (.int .i64 off) (by simp)) w1.heap.size 11 (.bool last) (by simp))) ?_; intro w3 hd3 ht3; have HD3 := Lib.hid hd3; have HT3 := Lib.hid ht3; clear hd3 ht3))
    exact bodyPost_ret (results_cell Try.results40 rfl (load_msg HD3.out)) rfl (HFIN.out _ _ (by simp [onlyOf, bareOf]) (below_of_touch (HFB2.out _ (touch_set (touch_set (touch_set (Touch.refl [w1.heap.size] w2) w1.heap.size 4 (.int .i64 index) (by simp)) w1.heap.size 9 (.int .i64 off) (by simp)) w1.heap.size 11 (.bool last) (by simp))) HT3.out (by omega)))
  have hfc := HD2.out
  have HFC := Lib.hid hfc
  have hon : bareOf ⟨kind, fr, tt, term, index, logTerm, commit, ok, ea, en, ecap, es, off, d, last, c⟩ = onlyOf ⟨kind, fr, tt, term, index, logTerm, commit, ok, ea, en, ecap, es, off, d, last, c⟩ := by unfold onlyOf; simp only [k1, k3, k2, k4, k5, k6, k7, k8, or_self, if_false]
  have HON := Lib.hid hon
  have n1 : (kind == 1) = false := by simp [k1]
  have n2 : (kind == 2) = false := by simp [k2]
  have n3 : (kind == 3) = false := by simp [k3]
  have n4 : (kind == 4) = false := by simp [k4]
  have n5 : (kind == 5) = false := by simp [k5]
  have n6 : (kind == 6) = false := by simp [k6]
  have n7 : (kind == 7) = false := by simp [k7]
  have n8 : (kind == 8) = false := by simp [k8]
  have HRR := Lib.hid (HR.out w2 HT2.out)
  clear hfc hon k1 k2 k3 k4 k5 k6 k7 k8
  go_upto_region 29 with fail
  go_wp2_with (first
    | (refine wpList_loadM rfl _ rfl w1.heap.size (bareOf ⟨kind, fr, tt, term, index, logTerm, commit, ok, ea, en, ecap, es, off, d, last, c⟩) _ rfl HFC.out ?_)
    | (refine wpList_storeM rfl _ _ rfl (w.heap.size + 1) (bareOf ⟨kind, fr, tt, term, index, logTerm, commit, ok, ea, en, ecap, es, off, d, last, c⟩) zeroM rfl rfl _ HRR.out ?_; intro w3 hd3 ht3; have HD3 := Lib.hid hd3; have HT3 := Lib.hid ht3; clear hd3 ht3))
  exact bodyPost_ret (results_cell Try.results40 rfl (load_msg HD3.out)) rfl (HFIN.out _ _ HON.out (below_of_touch (below_of_touch HYB.out HT2.out (by have := HSZ.out; omega)) HT3.out (by omega)))
end Go.Proofs.Ytcejamblndilbaa
