/- The document's Do: Double, Swap. -/
import Derived.Test.YtnjbhjgihcgefaaRefDo3
namespace Go.Proofs.Ytnjbhjgihcgefaa
open Go.RowKit

/-- the box of the op, and of what it may tell -/
theorem five_b (w : World) (A B C D E : Obj) : (fiveBox w A B C D E).heap[w.heap.size + 1]? = some B := (heap_alloc_old _ _ (by simp)).trans (four_b w A B C D)
theorem six_size (w : World) (A B C D E F : Obj) : ((fiveBox w A B C D E).alloc F).heap.size = w.heap.size + 6 := by rw [World.size_alloc, five_size]
theorem six_below (w : World) (A B C D E F : Obj) : Below w.heap.size w ((fiveBox w A B C D E).alloc F) := (five_below w A B C D E).alloc (by rw [five_size]; omega) _
theorem six_of5 {w : World} {A B C D E F O : Obj} {i : Nat} (h : (fiveBox w A B C D E).heap[w.heap.size + i]? = some O) : ((fiveBox w A B C D E).alloc F).heap[w.heap.size + i]? = some O := (heap_alloc_old _ _ (lt_of_block h)).trans h
theorem six_f (w : World) (A B C D E F : Obj) : ((fiveBox w A B C D E).alloc F).heap[w.heap.size + 5]? = some F := by
  have h := heap_alloc_new (fiveBox w A B C D E) F
  rw [five_size] at h
  exact h
theorem six_op {w : World} {B : Nat} {T : TypeId} {c0 c1 c2 c3 c4 c5 : Value} (h : w.heap[B]? = some (.cells #[c0, c1, c2, c3, c4, c5] T (0, 0))) : w.cell? ⟨B, 0, none⟩ = some c0 ∧ w.cell? ⟨B, 1, none⟩ = some c1 ∧ w.cell? ⟨B, 2, none⟩ = some c2 := by
  refine ⟨?_, ?_, ?_⟩ <;> simp [World.cell?, h]

set_option maxRecDepth 100000 in
set_option maxHeartbeats 3200000 in
/-- a Double that finds room -/
theorem rdo_double (P : Nat → Prop) (us : List L3) (most : Int) (a : Option Addr) (n c : Nat) (o : OpL) (j : Nat) (u : L3) (w : World) (h : RefAt w P us a n) (hkd : o.kd = 4) (hi : o.i = (j : Int)) (hj : j < n) (hu : us[j]? = some u) (hm : (n : Int) < most) (hnew : ∀ b, w.heap.size ≤ b → P b) (hbig : n ≤ 1000000) :
    Calls Try.prog 15 #[.agg #[.int .i64 most, .slice a n c], .agg #[.int .i64 o.kd, .int .i64 o.i, .int .i64 o.k, .int .i64 o.f, .int .i64 o.t, .slice o.s.a o.s.len o.s.cap]] w (RefDo w P most (us.map L3.says ++ [u.says], true, zSays)) := by
  obtain ⟨kd, oi, ok, of, ot, os⟩ := o
  simp only at hkd hi ⊢
  subst hkd hi
  have hm' : ¬ (n : Int) ≥ most := by omega
  have hji : (j : Int) < (n : Int) := by omega
  obtain ⟨b, off, rfl, c0, c1, c2⟩ := ref_at h (four_below w (.cells #[.int .i64 most, .slice a n c] 40) (.cells #[.int .i64 4, .int .i64 (j : Int), .int .i64 ok, .int .i64 of, .int .i64 ot, .slice os.a os.len os.cap] 50) (.cells #[.int .i64 0, .slice none 0 0] 40) (.cells #[.int .i64 0, .int .i64 0, .slice none 0 0] 45)) hj hu
  have huo := h.ok u (List.mem_of_getElem? hu)
  obtain ⟨X, hX⟩ : ∃ X, X = (fiveBox w (.cells #[.int .i64 most, .slice (some ⟨b, off, none⟩) n c] 40) (.cells #[.int .i64 4, .int .i64 (j : Int), .int .i64 ok, .int .i64 of, .int .i64 ot, .slice os.a os.len os.cap] 50) (.cells #[.int .i64 0, .slice none 0 0] 40) (.cells #[.int .i64 0, .int .i64 0, .slice none 0 0] 45) (.cells #[.int .i64 u.f, .int .i64 u.t, .slice u.s.a u.s.len u.s.cap] 45)).alloc (.cells #[.int .i64 u.f, .int .i64 u.t, .slice u.s.a u.s.len u.s.cap] 45) := ⟨_, rfl⟩
  have hXb : Below w.heap.size w X := hX ▸ six_below _ _ _ _ _ _ _
  have hXs : X.heap.size = w.heap.size + 6 := hX ▸ six_size _ _ _ _ _ _ _
  have hA := hX ▸ six_of5 (i := 0) (five_a w _ _ _ _ _)
  have hC := hX ▸ six_of5 (five_c w _ _ _ _ _)
  have hD := hX ▸ six_of5 (five_d w _ _ _ _ _)
  have hE := hX ▸ six_f w _ _ _ _ _ _
  have hmore : RefAt X (Apart P w.heap.size (w.heap.size + 4)) [u] (some ⟨w.heap.size + 5, 0, none⟩) 1 :=
    ⟨rfl, RowN.of_block hE rfl rfl, fun v hv => by rw [List.mem_singleton] at hv; subst hv; exact ⟨huo.1.below hXb, SlP.apart huo.1 huo.2 _⟩, fun b off e _ => ⟨hnew b (by injection e with e; injection e with e; omega), .inr (by injection e with e; injection e with e; omega)⟩⟩
  have hcall := rlist_any (Apart P w.heap.size (w.heap.size + 4)) us [u] most (-1) ⟨0, 0, ⟨none, 0, 0, []⟩⟩ (some ⟨b, off, none⟩) (some ⟨w.heap.size + 5, 0, none⟩) n c 1 1 X ((h.apart _).below hXb) ⟨Sl.nil_ok _, fun _ _ e => by cases e⟩ hmore (fun b hb => ⟨hnew b (by omega), .inr (by omega)⟩) (by omega)
  rw [setAt_neg] at hcall
  have HC := Lib.hid hcall
  have HX := Lib.hid hX
  have HXB := Lib.hid hXb
  have HCC := Lib.hid hC
  have HDD := Lib.hid hD
  have HA := Lib.hid hA
  rw [hX] at HC
  clear hcall hX hXb hC hD hA hE hmore h hnew huo hu
  go_enter Try.func15, Try.ntmps15
  go_wp2_with fail
  refine (HC.out).mono ?_
  rintro e w2 ⟨a2, c2, rfl, hR2, hb2⟩
  rw [← HX.out] at hb2
  have hz2 := hb2.size
  obtain ⟨x0, x1, f0, f1⟩ := two_cells ((hb2.block w.heap.size (by omega)).trans HA.out)
  obtain ⟨y0, y1, g0, g1⟩ := two_cells ((hb2.block (w.heap.size + 2) (by omega)).trans HCC.out)
  obtain ⟨z0, z1, z2, k0, k1, k2⟩ := three_cells ((hb2.block (w.heap.size + 3) (by omega)).trans HDD.out)
  have HR2 := Lib.hid hR2
  have HB2 := Lib.hid hb2
  clear hR2 hb2
  go_wp2_with fail
  have ht := Touch.set (S := [w.heap.size]) w2 w.heap.size 1 (.slice a2 (n + 1) c2) (by simp)
  obtain ⟨e1, e2, e3, e4, e5⟩ := do_last (s := ⟨none, 0, 0, []⟩) HXB.out (by omega) (Nat.le_refl _) (fun k hk => by simp at hk; omega) ((Touch.of_below HB2.out).trans ht) HCC.out HDD.out (HR2.out.touch ht (not_apart fun k hk => by simp at hk; omega)) (Sl.nil_ok _) (fun _ _ e => by cases e) (.int .i64 most) (.slice a2 (n + 1) c2) (.int .i64 0) (.int .i64 0) (.slice none 0 0)
  exact bodyPost_ret (results_cells_tmp Try.results15 rfl (load_two_ref e1) rfl (load_three_ref e2)) rfl (RefDo.mk (s := ⟨none, 0, 0, []⟩) rfl rfl (by rw [List.map_append]; rfl) e3 e4 e5)

set_option maxRecDepth 100000 in
set_option maxHeartbeats 3200000 in
/-- a Swap -/
theorem rdo_swap (P : Nat → Prop) (us : List L3) (most : Int) (a : Option Addr) (n c : Nat) (o : OpL) (j m : Nat) (u v : L3) (w : World) (h : RefAt w P us a n) (hkd : o.kd = 5) (hi : o.i = (j : Int)) (hj : j < n) (hu : us[j]? = some u) (hk : o.k = (m : Int)) (hmn : m < n) (hv : us[m]? = some v) (hnew : ∀ b, w.heap.size ≤ b → P b) (hbig : n ≤ 1000000) :
    Calls Try.prog 15 #[.agg #[.int .i64 most, .slice a n c], .agg #[.int .i64 o.kd, .int .i64 o.i, .int .i64 o.k, .int .i64 o.f, .int .i64 o.t, .slice o.s.a o.s.len o.s.cap]] w (RefDo w P most (((us.map L3.says).set j v.says).set m u.says, true, zSays)) := by
  obtain ⟨kd, oi, ok, of, ot, os⟩ := o
  simp only at hkd hi hk ⊢
  subst hkd hi hk
  have hji : (j : Int) < (n : Int) := by omega
  have hmi : (m : Int) < (n : Int) := by omega
  obtain ⟨b, off, rfl, c0, c1, c2⟩ := ref_at h (four_below w (.cells #[.int .i64 most, .slice a n c] 40) (.cells #[.int .i64 5, .int .i64 (j : Int), .int .i64 (m : Int), .int .i64 of, .int .i64 ot, .slice os.a os.len os.cap] 50) (.cells #[.int .i64 0, .slice none 0 0] 40) (.cells #[.int .i64 0, .int .i64 0, .slice none 0 0] 45)) hj hu
  obtain ⟨b', off', he, d0, d1, d2⟩ := ref_at h (five_below w (.cells #[.int .i64 most, .slice (some ⟨b, off, none⟩) n c] 40) (.cells #[.int .i64 5, .int .i64 (j : Int), .int .i64 (m : Int), .int .i64 of, .int .i64 ot, .slice os.a os.len os.cap] 50) (.cells #[.int .i64 0, .slice none 0 0] 40) (.cells #[.int .i64 0, .int .i64 0, .slice none 0 0] 45) (.cells #[.int .i64 u.f, .int .i64 u.t, .slice u.s.a u.s.len u.s.cap] 45)) hmn hv
  simp only [Option.some.injEq, Addr.mk.injEq, and_true] at he
  obtain ⟨rfl, rfl⟩ := he
  unfold fiveBox at d0 d1 d2
  have huo := h.ok u (List.mem_of_getElem? hu)
  have hvo := h.ok v (List.mem_of_getElem? hv)
  obtain ⟨X, hX⟩ : ∃ X, X = (fiveBox w (.cells #[.int .i64 most, .slice (some ⟨b, off, none⟩) n c] 40) (.cells #[.int .i64 5, .int .i64 (j : Int), .int .i64 (m : Int), .int .i64 of, .int .i64 ot, .slice os.a os.len os.cap] 50) (.cells #[.int .i64 0, .slice none 0 0] 40) (.cells #[.int .i64 0, .int .i64 0, .slice none 0 0] 45) (.cells #[.int .i64 u.f, .int .i64 u.t, .slice u.s.a u.s.len u.s.cap] 45)).alloc (.cells #[.int .i64 v.f, .int .i64 v.t, .slice v.s.a v.s.len v.s.cap] 45) := ⟨_, rfl⟩
  have hXb : Below w.heap.size w X := hX ▸ six_below _ _ _ _ _ _ _
  have hXs : X.heap.size = w.heap.size + 6 := hX ▸ six_size _ _ _ _ _ _ _
  have hA := hX ▸ six_of5 (i := 0) (five_a w _ _ _ _ _)
  have hB := hX ▸ six_of5 (five_b w _ _ _ _ _)
  have hC := hX ▸ six_of5 (five_c w _ _ _ _ _)
  have hD := hX ▸ six_of5 (five_d w _ _ _ _ _)
  have hE := hX ▸ six_of5 (five_e w _ _ _ _ _)
  have hcall := rlist_any (Apart P w.heap.size (w.heap.size + 4)) us [] most (j : Int) v (some ⟨b, off, none⟩) none n c 0 0 X ((h.apart _).below hXb) ⟨hvo.1.below hXb, SlP.apart hvo.1 hvo.2 _⟩ (RefAt.nil _ _) (fun b hb => ⟨hnew b (by omega), .inr (by omega)⟩) (by omega)
  have HC := Lib.hid hcall
  have HX := Lib.hid hX
  have HXB := Lib.hid hXb
  have HCC := Lib.hid hC
  have HDD := Lib.hid hD
  have HA := Lib.hid hA
  have HBB := Lib.hid hB
  have HE := Lib.hid hE
  have HUO := Lib.hid huo
  have HNEW := Lib.hid hnew
  have H := Lib.hid h
  rw [hX] at HC
  clear hcall hX hXb hC hD hA hB hE h hnew huo hvo
  go_enter Try.func15, Try.ntmps15
  go_wp2_with fail
  refine (HC.out).mono ?_
  rintro e w2 ⟨a2, c2, rfl, hR2, hb2⟩
  rw [← HX.out] at hb2
  rw [List.append_nil] at hR2
  have hz2 := hb2.size
  obtain ⟨x0, x1, f0, f1⟩ := two_cells ((hb2.block w.heap.size (by omega)).trans HA.out)
  obtain ⟨o0, o1, o2⟩ := six_op ((hb2.block (w.heap.size + 1) (by omega)).trans HBB.out)
  obtain ⟨t0, t1, t2, _, _, _⟩ := three_cells ((hb2.block (w.heap.size + 4) (by omega)).trans HE.out)
  have ht := Touch.set (S := [w.heap.size]) w2 w.heap.size 1 (.slice a2 (n + 0) c2) (by simp)
  have hcall := rlist_any (Apart P w.heap.size (w.heap.size + 4)) (setAt us (j : Int) v) [] most (m : Int) u a2 none n c2 0 0 (w2.setCell ⟨w.heap.size, 1, none⟩ (.slice a2 (n + 0) c2)) (hR2.touch ht (not_apart fun k hk => by simp at hk; omega)) ⟨((HUO.out.1.below HXB.out).below hb2).touch (SlP.apart HUO.out.1 HUO.out.2 (w.heap.size + 4)) ht (not_apart fun k hk => by simp at hk; omega), SlP.apart HUO.out.1 HUO.out.2 _⟩ (RefAt.nil _ _) (fun b hb => by have h1 := ht.size; exact ⟨HNEW.out b (by omega), .inr (by omega)⟩) (by omega)
  have HC2 := Lib.hid hcall
  have HB2 := Lib.hid hb2
  have HT := Lib.hid ht
  clear hcall hR2 hb2 ht
  go_wp2_with fail
  refine (HC2.out).mono ?_
  rintro e w3 ⟨a3, c3, rfl, hR3, hb3⟩
  rw [List.append_nil] at hR3
  have ht3 := (Touch.of_below (S := [w.heap.size]) HB2.out).trans (HT.out.trans (Touch.of_below hb3))
  have hz3 := ht3.size
  have hA3 := (hb3.block w.heap.size (by have := HT.out.size; omega)).trans (set_block (i := 1) ((HB2.out.block w.heap.size (by omega)).trans HA.out) (.slice a2 (n + 0) c2))
  obtain ⟨x0', x1', f0', f1'⟩ := two_cells hA3
  obtain ⟨y0, y1, g0, g1⟩ := two_cells ((ht3.block (w.heap.size + 2) (by omega) (by simp)).trans HCC.out)
  obtain ⟨z0, z1, z2, k0, k1, k2⟩ := three_cells ((ht3.block (w.heap.size + 3) (by omega) (by simp)).trans HDD.out)
  have HR3 := Lib.hid hR3
  have HT3 := Lib.hid ht3
  clear hR3 hb3 hA3 ht3
  go_wp2_with fail
  have ht := Touch.set (S := [w.heap.size]) w3 w.heap.size 1 (.slice a3 (n + 0) c3) (by simp)
  obtain ⟨e1, e2, e3, e4, e5⟩ := do_last (s := ⟨none, 0, 0, []⟩) HXB.out (by omega) (Nat.le_refl _) (fun k hk => by simp at hk; omega) (HT3.out.trans ht) HCC.out HDD.out (HR3.out.touch ht (not_apart fun k hk => by simp at hk; omega)) (Sl.nil_ok _) (fun _ _ e => by cases e) (.int .i64 most) (.slice a3 (n + 0) c3) (.int .i64 0) (.int .i64 0) (.slice none 0 0)
  refine bodyPost_ret (results_cells_tmp Try.results15 rfl (load_two_ref e1) rfl (load_three_ref e2)) rfl (RefDo.mk (s := ⟨none, 0, 0, []⟩) rfl rfl ?_ e3 e4 e5)
  have hl := H.out.len
  rw [setAt, if_pos (by rw [setAt_len]; omega), setAt, if_pos (by omega), List.map_set, List.map_set]
  rfl
end Go.Proofs.Ytnjbhjgihcgefaa
