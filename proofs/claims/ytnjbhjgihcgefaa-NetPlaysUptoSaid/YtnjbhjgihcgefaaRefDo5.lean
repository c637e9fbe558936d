/- The document's Do: Short. -/
import Derived.Test.YtnjbhjgihcgefaaRefDo4
namespace Go.Proofs.Ytnjbhjgihcgefaa
open Go.RowKit

set_option maxRecDepth 100000 in
set_option maxHeartbeats 3200000 in
/-- a Short -/
theorem rdo_short (P : Nat → Prop) (us : List L3) (most : Int) (a : Option Addr) (n c : Nat) (o : OpL) (j : Nat) (u : L3) (w : World) (h : RefAt w P us a n) (hkd : o.kd = 6) (hi : o.i = (j : Int)) (hj : j < n) (hu : us[j]? = some u) (hm : 0 < u.s.len) (hbl : u.s.len ≤ 140737488355328) (hnew : ∀ b, w.heap.size ≤ b → P b) (hbig : n ≤ 1000000) :
    Calls Try.prog 15 #[.agg #[.int .i64 most, .slice a n c], .agg #[.int .i64 o.kd, .int .i64 o.i, .int .i64 o.k, .int .i64 o.f, .int .i64 o.t, .slice o.s.a o.s.len o.s.cap]] w (RefDo w P most ((us.map L3.says).set j (u.f, u.t, u.s.bs.dropLast), true, zSays)) := by
  obtain ⟨kd, oi, ok, of, ot, os⟩ := o
  simp only at hkd hi ⊢
  subst hkd hi
  have hji : (j : Int) < (n : Int) := by omega
  obtain ⟨uf, ut, ua, ul, uc, ub⟩ := u
  simp only at hm hbl ⊢
  obtain ⟨K, hK⟩ : ∃ K, ul = K + 1 := ⟨ul - 1, by omega⟩
  subst hK
  obtain ⟨b, off, rfl, c0, c1, c2⟩ := ref_at h (four_below w (.cells #[.int .i64 most, .slice a n c] 40) (.cells #[.int .i64 6, .int .i64 (j : Int), .int .i64 ok, .int .i64 of, .int .i64 ot, .slice os.a os.len os.cap] 50) (.cells #[.int .i64 0, .slice none 0 0] 40) (.cells #[.int .i64 0, .int .i64 0, .slice none 0 0] 45)) hj hu
  have huo := h.ok _ (List.mem_of_getElem? hu)
  obtain ⟨X, hX⟩ : ∃ X, X = fiveBox w (.cells #[.int .i64 most, .slice (some ⟨b, off, none⟩) n c] 40) (.cells #[.int .i64 6, .int .i64 (j : Int), .int .i64 ok, .int .i64 of, .int .i64 ot, .slice os.a os.len os.cap] 50) (.cells #[.int .i64 0, .slice none 0 0] 40) (.cells #[.int .i64 0, .int .i64 0, .slice none 0 0] 45) (.cells #[.int .i64 uf, .int .i64 ut, .slice ua (K + 1) uc] 45) := ⟨_, rfl⟩
  have hXb : Below w.heap.size w X := hX ▸ five_below _ _ _ _ _ _
  have hXs : X.heap.size = w.heap.size + 5 := hX ▸ five_size _ _ _ _ _ _
  have hA := hX ▸ five_a w _ _ _ _ _
  have hB := hX ▸ five_b w _ _ _ _ _
  have hC := hX ▸ five_c w _ _ _ _ _
  have hD := hX ▸ five_d w _ _ _ _ _
  have hE := hX ▸ five_e w _ _ _ _ _
  have hlc : K + 1 ≤ uc ∧ uc ≤ maxLen := ⟨huo.1.2.1, huo.1.2.2.1⟩
  have hcm : uc ≤ 9223372036854775807 := by simpa [maxLen] using hlc.2
  have hl0 : (((K + 1 : Nat) : Int) == 0) = false := by simp; omega
  have i1 : (0 : Int) ≤ (K : Int) := by omega
  have i2 : (K : Int) ≤ (uc : Int) := by omega
  have hwr : IntKind.i64.wrap (K : Int) = (K : Int) := by first | go_num | (rw [IntKind.wrap_i64]; omega)
  have hlu : ub.length = K + 1 := huo.1.1.1
  have hjoin := join_any X.heap.size none 0 0 [] ua K uc (ub.take K) X (Own8.nil _ _) ((huo.1.below hXb).1.take K (by simp)) (fun _ _ _ _ e => by cases e) (Nat.le_refl _) (by omega) K (by omega)
  have HC := Lib.hid hjoin
  have HX := Lib.hid hX
  have HXB := Lib.hid hXb
  have HCC := Lib.hid hC
  have HDD := Lib.hid hD
  have HA := Lib.hid hA
  have HBB := Lib.hid hB
  have HE := Lib.hid hE
  have HNEW := Lib.hid hnew
  have H := Lib.hid h
  have HLU := Lib.hid hlu
  rw [hX] at HC
  clear hjoin hX hXb hC hD hA hB hE h hnew huo hu hlu hlc
  go_enter Try.func15, Try.ntmps15
  go_wp2_with fail
  refine (HC.out).mono ?_
  rintro e w2 ⟨aj, cj, rfl, hown, hg, _⟩
  rw [← HX.out] at hg hown
  rw [List.nil_append] at hown
  have hb2 : Below X.heap.size X w2 := (Below.refl _ _).grown hg (Nat.le_refl _) (fun g hg => by cases hg)
  have hz2 := hb2.size
  obtain ⟨x0, x1, f0, f1⟩ := two_cells ((hb2.block w.heap.size (by omega)).trans HA.out)
  obtain ⟨o0, o1, o2⟩ := six_op ((hb2.block (w.heap.size + 1) (by omega)).trans HBB.out)
  obtain ⟨t0, t1, t2, v0, v1, v2⟩ := three_cells ((hb2.block (w.heap.size + 4) (by omega)).trans HE.out)
  have ht := Touch.set (S := [w.heap.size + 4]) w2 (w.heap.size + 4) 2 (.slice aj K cj) (by simp)
  have hown2 : Own8 (w2.setCell ⟨w.heap.size + 4, 2, none⟩ (.slice aj K cj)) X.heap.size aj K cj (ub.take K) := own_keep hown fun g hg hl => ht.block g hl (fun hi => by have := (hown.lt g hg).1; simp at hi; omega)
  have hjok : Sl.ok (w2.setCell ⟨w.heap.size + 4, 2, none⟩ (.slice aj K cj)) ⟨aj, K, cj, ub.take K⟩ := ⟨hown2.row, hown2.cap.1, hown2.cap.2, hown2.nocap⟩
  have hjp : SlP (Apart P w.heap.size (w.heap.size + 5)) ⟨aj, K, cj, ub.take K⟩ := fun b off e _ => by
    simp only at e
    subst e
    have := (hown.lt b rfl).1
    exact ⟨HNEW.out b (by omega), .inr (by omega)⟩
  have hcall := rlist_any (Apart P w.heap.size (w.heap.size + 5)) us [] most (j : Int) ⟨uf, ut, ⟨aj, K, cj, ub.take K⟩⟩ (some ⟨b, off, none⟩) none n c 0 0 (w2.setCell ⟨w.heap.size + 4, 2, none⟩ (.slice aj K cj)) ((((H.out.apart _).below HXB.out).below hb2).touch ht (not_apart fun k hk => by simp at hk; omega)) ⟨hjok, hjp⟩ (RefAt.nil _ _) (fun b hb => by have h1 := ht.size; exact ⟨HNEW.out b (by omega), .inr (by omega)⟩) (by omega)
  have HC2 := Lib.hid hcall
  have HB2 := Lib.hid hb2
  have HT := Lib.hid ht
  clear hcall hown hg hb2 ht hown2 hjok hjp
  go_wp2_with fail
  refine (HC2.out).mono ?_
  rintro e w3 ⟨a3, c3, rfl, hR3, hb3⟩
  rw [List.append_nil] at hR3
  have hS : ∀ k, k ∈ [w.heap.size + 4] → k ∈ [w.heap.size, w.heap.size + 4] := fun k hk => by simp at hk; simp [hk]
  have ht3 := (Touch.of_below (S := [w.heap.size, w.heap.size + 4]) HB2.out).trans ((HT.out.mono hS).trans (Touch.of_below hb3))
  have hz3 := ht3.size
  have k : (w2.setCell ⟨w.heap.size + 4, 2, none⟩ (.slice aj K cj)).heap[w.heap.size]? = w2.heap[w.heap.size]? := Below.heap_setCell _ _ _ _ (by simp)
  have hA3 := (hb3.block w.heap.size (by have := HT.out.size; omega)).trans (k.trans ((HB2.out.block w.heap.size (by omega)).trans HA.out))
  obtain ⟨x0', x1', f0', f1'⟩ := two_cells hA3
  obtain ⟨y0, y1, g0, g1⟩ := two_cells ((ht3.block (w.heap.size + 2) (by omega) (by simp)).trans HCC.out)
  obtain ⟨z0, z1, z2, k0, k1, k2⟩ := three_cells ((ht3.block (w.heap.size + 3) (by omega) (by simp)).trans HDD.out)
  have HR3 := Lib.hid hR3
  have HT3 := Lib.hid ht3
  clear hR3 hb3 hA3 ht3 k
  go_wp2_with fail
  have ht := Touch.set (S := [w.heap.size, w.heap.size + 4]) w3 w.heap.size 1 (.slice a3 (n + 0) c3) (by simp)
  obtain ⟨e1, e2, e3, e4, e5⟩ := do_last (s := ⟨none, 0, 0, []⟩) HXB.out (by omega) (by omega) (fun k hk => by simp at hk; omega) (HT3.out.trans ht) HCC.out HDD.out (HR3.out.touch ht (not_apart fun k hk => by simp at hk; omega)) (Sl.nil_ok _) (fun _ _ e => by cases e) (.int .i64 most) (.slice a3 (n + 0) c3) (.int .i64 0) (.int .i64 0) (.slice none 0 0)
  refine bodyPost_ret (results_cells_tmp Try.results15 rfl (load_two_ref e1) rfl (load_three_ref e2)) rfl (RefDo.mk (s := ⟨none, 0, 0, []⟩) rfl rfl ?_ e3 e4 e5)
  have hl := H.out.len
  rw [setAt, if_pos (by omega), List.map_set, List.dropLast_eq_take, HLU.out]
  rfl
end Go.Proofs.Ytnjbhjgihcgefaa
