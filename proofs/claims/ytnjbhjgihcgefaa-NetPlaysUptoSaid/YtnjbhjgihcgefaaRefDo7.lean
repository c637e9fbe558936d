/- The document's Do: Drop. -/
import Derived.Test.YtnjbhjgihcgefaaRefDo6
namespace Go.Proofs.Ytnjbhjgihcgefaa
open Go.RowKit

set_option maxRecDepth 100000 in
set_option maxHeartbeats 3200000 in
/-- a Drop -/
theorem rdo_drop (P : Nat → Prop) (us : List L3) (most : Int) (a : Option Addr) (n c : Nat) (o : OpL) (j : Nat) (u : L3) (w : World) (h : RefAt w P us a n) (hkd : o.kd = 3) (hi : o.i = (j : Int)) (hj : j < n) (hu : us[j]? = some u) (hnew : ∀ b, w.heap.size ≤ b → P b) (hbig : n ≤ 1000000) :
    Calls Try.prog 15 #[.agg #[.int .i64 most, .slice a n c], .agg #[.int .i64 o.kd, .int .i64 o.i, .int .i64 o.k, .int .i64 o.f, .int .i64 o.t, .slice o.s.a o.s.len o.s.cap]] w (RefDo w P most ((us.map L3.says).eraseIdx j, true, zSays)) := by
  obtain ⟨kd, oi, ok, of, ot, os⟩ := o
  simp only at hkd hi ⊢
  subst hkd hi
  have hji : (j : Int) < (n : Int) := by omega
  obtain ⟨b, off, rfl, c0, c1, c2⟩ := ref_at h (four_below w (.cells #[.int .i64 most, .slice a n c] 40) (.cells #[.int .i64 3, .int .i64 (j : Int), .int .i64 ok, .int .i64 of, .int .i64 ot, .slice os.a os.len os.cap] 50) (.cells #[.int .i64 0, .slice none 0 0] 40) (.cells #[.int .i64 0, .int .i64 0, .slice none 0 0] 45)) hj hu
  have huo := h.ok u (List.mem_of_getElem? hu)
  obtain ⟨X, hX⟩ : ∃ X, X = fiveBox w (.cells #[.int .i64 most, .slice (some ⟨b, off, none⟩) n c] 40) (.cells #[.int .i64 3, .int .i64 (j : Int), .int .i64 ok, .int .i64 of, .int .i64 ot, .slice os.a os.len os.cap] 50) (.cells #[.int .i64 0, .slice none 0 0] 40) (.cells #[.int .i64 0, .int .i64 0, .slice none 0 0] 45) (.cells #[.int .i64 u.f, .int .i64 u.t, .slice u.s.a u.s.len u.s.cap] 45) := ⟨_, rfl⟩
  have hXb : Below w.heap.size w X := hX ▸ five_below _ _ _ _ _ _
  have hXs : X.heap.size = w.heap.size + 5 := hX ▸ five_size _ _ _ _ _ _
  have hA := hX ▸ five_a w _ _ _ _ _
  have hB := hX ▸ five_b w _ _ _ _ _
  have hC := hX ▸ five_c w _ _ _ _ _
  have hD := hX ▸ five_d w _ _ _ _ _
  have hE := hX ▸ five_e w _ _ _ _ _
  have HX := Lib.hid hX
  have HXB := Lib.hid hXb
  have HCC := Lib.hid hC
  have HDD := Lib.hid hD
  have HA := Lib.hid hA
  have HBB := Lib.hid hB
  have HE := Lib.hid hE
  have HUO := Lib.hid huo
  have HNEW := Lib.hid hnew
  have H := Lib.hid h
  clear hX hXb hC hD hA hB hE h hnew huo
  go_enter Try.func15, Try.ntmps15
  go_wp2_with fail
  rw [show decide ((j : Int) < 0) = false from decide_eq_false (by omega), show decide (n ≤ j) = false from decide_eq_false (by omega), Bool.or_false]
  go_loopw [8, 9] (fun v i wr => ∃ (k m : Nat) (ak : Option Addr) (ck : Nat), k ≤ n ∧ m ≤ k ∧ i = .int .i64 k ∧ v = .slice ak m ck ∧ Hid (m = ((us.take k).eraseIdx j).length) ∧ wr.ownsRow X.heap.size 45 3 (.slice ak m ck) m (((us.take k).eraseIdx j).flatMap L3.cells) ∧ Below X.heap.size X wr) (fun _ i _ => n - (intOf i).toNat)
  case atStart =>
    have hown := World.ownsRow_lit (base := X.heap.size) (e := 45) (size := 3) X #[] 0 (Nat.le_refl _) (by simp [maxLen]) rfl
    have hbx := (Below.refl X.heap.size X).alloc (Nat.le_refl _) (.cells #[] 45)
    refine ⟨0, 0, _, 0, by omega, by omega, rfl, rfl, (show _ = _ by simp), ?_, ?_⟩
    · rw [HX.out, five_size] at hown
      rw [hXs, List.take_zero, List.eraseIdx_nil]
      exact hown
    · rw [HX.out] at hbx ⊢
      exact hbx
  case round =>
    obtain ⟨k, m, ak, ck, hk, hmk, rfl, rfl, HM, hown, hbw⟩ := hrel
    have hzw := hbw.size
    have hAw := (hbw.block w.heap.size (by omega)).trans HA.out
    have hBw := (hbw.block (w.heap.size + 1) (by omega)).trans HBB.out
    obtain ⟨x0, x1, f0, f1⟩ := two_cells hAw
    obtain ⟨y0, y1, y2⟩ := six_op hBw
    have HOWN := Lib.hid hown
    have HBW := Lib.hid hbw
    clear hown hbw
    by_cases hlt : k < n
    · obtain ⟨v, hv⟩ : ∃ v, us[k]? = some v := ⟨_, List.getElem?_eq_getElem (by rw [H.out.len]; exact hlt)⟩
      have hkn : (k : Int) < (n : Int) := by omega
      by_cases hkj : k = j
      · subst hkj
        go_wp2_with fail
        go_roundw
        case rel =>
          refine ⟨k + 1, m, ak, ck, by omega, by omega, by go_num, rfl, (show _ = _ by rw [erase_take_eq hv]; exact HM.out), ?_, HBW.out⟩
          rw [erase_take_eq hv]
          exact HOWN.out
        case measure => simp [intOf]; omega
      · have hkj' : ((k : Int) == (j : Int)) = false := beq_eq_false_iff_ne.2 (by omega)
        have hkj2 : ((k : Int) != (j : Int)) = true := by simp; omega
        have hRw := RowN.below (H.out.below (HXB.out.trans (HBW.out.mono (by omega)))).row (Below.refl _ _)
        obtain ⟨b', off', he, u0, u1, u2⟩ := letters_at hRw H.out.len k hlt v hv
        simp only [Option.some.injEq, Addr.mk.injEq, and_true] at he
        obtain ⟨rfl, rfl⟩ := he
        have hO := own_keep HOWN.out (w' := wr.alloc (.cells #[.int .i64 v.f, .int .i64 v.t, .slice v.s.a v.s.len v.s.cap] 45)) (fun g hg hl => heap_alloc_old wr _ hl)
        have HO := Lib.hid hO
        clear hO hRw hAw hBw
        go_wp2_with (at_builtin; refine wpList_appendR rfl (.tmp 67) (.tmp 73) rfl X.heap.size ak m ck (((us.take k).eraseIdx j).flatMap L3.cells) rfl HO.out (some ⟨wr.heap.size, 0, none⟩) 1 1 v.cells rfl (RowN.newH _ _ _ 3 1 _ _ rfl rfl rfl) (fun h => by cases h) (cells_one3 _) (by omega) (by rw [World.size_alloc]; omega) (m + 1) rfl ?_; intro ao3 cap3 w3 hown3 hg3 hat3)

        go_roundw
        case rel =>
          refine ⟨k + 1, m + 1, ao3, cap3, by omega, by omega, by go_num, rfl, (show _ = _ by rw [erase_take_ne hv hkj, List.length_append, ← HM.out]; rfl), ?_, (HBW.out.alloc hzw _).grown hg3 (by rw [World.size_alloc]; omega) (fun g hg => (HOWN.out.lt g hg).1)⟩
          rw [erase_take_ne hv hkj, List.flatMap_append]
          simpa using hown3
        case measure => simp [intOf]; omega
    · have hke : k = n := by omega
      subst hke
      have ht : us.take k = us := List.take_of_length_le (by rw [H.out.len]; exact Nat.le_refl _)
      obtain ⟨t0, t1, t2, v0, v1, v2⟩ := three_cells ((HBW.out.block (w.heap.size + 4) (by omega)).trans HE.out)
      go_wp2_with fail
      obtain ⟨W1, hW1⟩ : ∃ W1, W1 = (((wr.setCell ⟨w.heap.size, 1, none⟩ (.slice ak m ck)).setCell ⟨w.heap.size + 4, 0, none⟩ (.int .i64 0)).setCell ⟨w.heap.size + 4, 1, none⟩ (.int .i64 0)).setCell ⟨w.heap.size + 4, 2, none⟩ (.slice none 0 0) := ⟨_, rfl⟩
      have hT : Touch [w.heap.size, w.heap.size + 4] wr W1 := hW1 ▸ ((((Touch.refl _ _).trans (Touch.set _ _ _ _ (by simp))).trans (Touch.set _ _ _ _ (by simp))).trans (Touch.set _ _ _ _ (by simp))).trans (Touch.set _ _ _ _ (by simp))
      have hz1 := hT.size
      have kk : ∀ (Z : World) (i : Nat) (v : Value), (Z.setCell ⟨w.heap.size + 4, i, none⟩ v).heap[w.heap.size]? = Z.heap[w.heap.size]? := fun Z i v => Below.heap_setCell Z _ _ _ (by simp)
      have kk' : ∀ (Z : World) (i : Nat) (v : Value), (Z.setCell ⟨w.heap.size, i, none⟩ v).heap[w.heap.size + 4]? = Z.heap[w.heap.size + 4]? := fun Z i v => Below.heap_setCell Z _ _ _ (by simp)
      have hA1 : W1.heap[w.heap.size]? = some (.cells #[.int .i64 most, .slice ak m ck] 40 (0, 0)) := by
        rw [hW1, kk, kk, kk]
        exact set_block (i := 1) hAw _
      have hE1 : W1.heap[w.heap.size + 4]? = some (.cells #[.int .i64 0, .int .i64 0, .slice none 0 0] 45 (0, 0)) := by
        rw [hW1]
        exact set_block (i := 2) (set_block (i := 1) (set_block (i := 0) ((kk' _ _ _).trans ((HBW.out.block (w.heap.size + 4) (by omega)).trans HE.out)) _) _) _
      have hB1 := (hT.block (w.heap.size + 1) (by omega) (by simp)).trans hBw
      rw [show w.heap.size + 1 + 1 + 1 + 1 = w.heap.size + 4 from by omega, ← hW1]
      clear x0 x1 f0 f1 y0 y1 y2 t0 t1 t2 v0 v1 v2 kk kk'
      obtain ⟨x0, x1, f0, f1⟩ := two_cells hA1
      obtain ⟨t0, t1, t2, v0, v1, v2⟩ := three_cells hE1
      obtain ⟨m0, m1, g0, g1⟩ := two_cells ((hT.block (w.heap.size + 2) (by omega) (by simp)).trans ((HBW.out.block (w.heap.size + 2) (by omega)).trans HCC.out))
      obtain ⟨z0, z1, z2, k0, k1, k2⟩ := three_cells ((hT.block (w.heap.size + 3) (by omega) (by simp)).trans ((HBW.out.block (w.heap.size + 3) (by omega)).trans HDD.out))
      have HT := Lib.hid hT
      clear hT hA1 hW1 hAw hBw hE1 hB1
      go_region
      go_wp2_with fail
      have hall := HXB.out.trans (HBW.out.mono (by omega))
      have hnot := not_apart (P := P) (B := w.heap.size) (C := w.heap.size + 5) (S := [w.heap.size, w.heap.size + 4]) (fun k hk => by simp at hk; omega)
      have hR : RefAt W1 (Apart P w.heap.size (w.heap.size + 5)) (us.eraseIdx j) ak m := RefAt.of_own (w := X) (base := X.heap.size) (c := ck) (by
        have h1 := HOWN.out
        rw [ht] at h1
        exact own_keep h1 (fun g hg hl => HT.out.block g hl (fun hi => by have := (h1.lt g hg).1; simp at hi; omega))) (by omega) (by rw [HM.out, ht]) (fun v hv => ⟨((H.out.ok v (List.mem_of_mem_eraseIdx hv)).1.below hall).touch (SlP.apart (H.out.ok v (List.mem_of_mem_eraseIdx hv)).1 (H.out.ok v (List.mem_of_mem_eraseIdx hv)).2 _) HT.out hnot, SlP.apart (H.out.ok v (List.mem_of_mem_eraseIdx hv)).1 (H.out.ok v (List.mem_of_mem_eraseIdx hv)).2 _⟩) (fun b hb => ⟨HNEW.out b (by omega), .inr (by omega)⟩)
      obtain ⟨e1, e2, e3, e4, e5⟩ := do_last (s := ⟨none, 0, 0, []⟩) HXB.out (by omega) (by omega) (fun k hk => by simp at hk; omega) ((Touch.of_below HBW.out).trans HT.out) HCC.out HDD.out hR (Sl.nil_ok _) (fun _ _ e => by cases e) (.int .i64 most) (.slice ak m ck) (.int .i64 0) (.int .i64 0) (.slice none 0 0)
      exact bodyPost_ret (results_cells_tmp Try.results15 rfl (load_two_ref (w := World.drew _) e1) rfl (load_three_ref (w := World.drew _) e2)) rfl (RefDo.mk (s := ⟨none, 0, 0, []⟩) rfl rfl (map_eraseIdx _ _ _) (e3.below (Below.refl _ _).drew) (e4.below (Below.refl _ _).drew) e5.drew)
end Go.Proofs.Ytnjbhjgihcgefaa
