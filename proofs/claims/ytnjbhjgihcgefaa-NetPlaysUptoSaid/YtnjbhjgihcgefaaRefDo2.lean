/- The document's Do: what does nothing, and Send. -/
import Derived.Test.YtnjbhjgihcgefaaRefDo
namespace Go.Proofs.Ytnjbhjgihcgefaa
open Go.RowKit

set_option maxRecDepth 100000 in
set_option maxHeartbeats 3200000 in
/-- an index out of range -/
theorem rdo_out (P : Nat → Prop) (us : List L3) (most : Int) (a : Option Addr) (n c : Nat) (o : OpL) (w : World) (h : RefAt w P us a n) (hkd : o.kd ≠ 1) (hi : ¬ (0 ≤ o.i ∧ o.i < (n : Int))) :
    Calls Try.prog 15 #[.agg #[.int .i64 most, .slice a n c], .agg #[.int .i64 o.kd, .int .i64 o.i, .int .i64 o.k, .int .i64 o.f, .int .i64 o.t, .slice o.s.a o.s.len o.s.cap]] w (RefDo w P most (us.map L3.says, false, zSays)) := by
  have H := Lib.hid h
  clear h
  by_cases h0 : o.i < 0
  · go_enter Try.func15, Try.ntmps15
    go_wp2_with fail
    exact bodyPost_ret (results_cells_tmp Try.results15 rfl (load_two_ref (four_c w _ _ _ _)) rfl (load_three_ref (four_d w _ _ _ _))) rfl (RefDo.mk (s := ⟨none, 0, 0, []⟩) rfl rfl rfl (H.out.below (four_below _ _ _ _ _)) (Sl.nil_ok _) (four_below _ _ _ _ _))
  · have h1 : o.i ≥ (n : Int) := by omega
    go_enter Try.func15, Try.ntmps15
    go_wp2_with fail
    exact bodyPost_ret (results_cells_tmp Try.results15 rfl (load_two_ref (four_c w _ _ _ _)) rfl (load_three_ref (four_d w _ _ _ _))) rfl (RefDo.mk (s := ⟨none, 0, 0, []⟩) rfl rfl rfl (H.out.below (four_below _ _ _ _ _)) (Sl.nil_ok _) (four_below _ _ _ _ _))

/-- the cells of an element of a row that is only read, behind boxes -/
theorem ref_at {w w' : World} {P : Nat → Prop} {us : List L3} {a : Option Addr} {n j : Nat} {u : L3} (h : RefAt w P us a n) (hb : Below w.heap.size w w') (hj : j < n) (hu : us[j]? = some u) :
    ∃ b off, a = some ⟨b, off, none⟩ ∧ w'.cell? ⟨b, off + j * 3, none⟩ = some (.int .i64 u.f) ∧ w'.cell? ⟨b, off + j * 3 + 1, none⟩ = some (.int .i64 u.t) ∧ w'.cell? ⟨b, off + j * 3 + 2, none⟩ = some (.slice u.s.a u.s.len u.s.cap) :=
  letters_at (h.below hb).row h.len j hj u hu

set_option maxRecDepth 100000 in
set_option maxHeartbeats 3200000 in
/-- a Double that finds no room -/
theorem rdo_dfull (P : Nat → Prop) (us : List L3) (most : Int) (a : Option Addr) (n c : Nat) (o : OpL) (j : Nat) (u : L3) (w : World) (h : RefAt w P us a n) (hkd : o.kd = 4) (hi : o.i = (j : Int)) (hj : j < n) (hu : us[j]? = some u) (hm : most ≤ (n : Int)) :
    Calls Try.prog 15 #[.agg #[.int .i64 most, .slice a n c], .agg #[.int .i64 o.kd, .int .i64 o.i, .int .i64 o.k, .int .i64 o.f, .int .i64 o.t, .slice o.s.a o.s.len o.s.cap]] w (RefDo w P most (us.map L3.says, false, zSays)) := by
  obtain ⟨kd, oi, ok, of, ot, os⟩ := o
  simp only at hkd hi ⊢
  subst hkd hi
  have hm' : (n : Int) ≥ most := hm
  have hji : (j : Int) < (n : Int) := by omega
  obtain ⟨b, off, rfl, c0, c1, c2⟩ := ref_at h (four_below w (.cells #[.int .i64 most, .slice a n c] 40) (.cells #[.int .i64 4, .int .i64 (j : Int), .int .i64 ok, .int .i64 of, .int .i64 ot, .slice os.a os.len os.cap] 50) (.cells #[.int .i64 0, .slice none 0 0] 40) (.cells #[.int .i64 0, .int .i64 0, .slice none 0 0] 45)) hj hu
  have H := Lib.hid h
  clear h
  go_enter Try.func15, Try.ntmps15
  go_wp2_with fail
  exact bodyPost_ret (results_cells_tmp Try.results15 rfl (load_two_ref ((heap_alloc_old _ _ (by simp)).trans (four_c w _ _ _ _))) rfl (load_three_ref ((heap_alloc_old _ _ (by simp)).trans (four_d w _ _ _ _)))) rfl (RefDo.mk (s := ⟨none, 0, 0, []⟩) rfl rfl rfl (H.out.below ((four_below _ _ _ _ _).alloc (by simp; omega) _)) (Sl.nil_ok _) ((four_below _ _ _ _ _).alloc (by simp; omega) _))
set_option maxRecDepth 100000 in
set_option maxHeartbeats 3200000 in
/-- a Swap with nothing there -/
theorem rdo_kout (P : Nat → Prop) (us : List L3) (most : Int) (a : Option Addr) (n c : Nat) (o : OpL) (j : Nat) (u : L3) (w : World) (h : RefAt w P us a n) (hkd : o.kd = 5) (hi : o.i = (j : Int)) (hj : j < n) (hu : us[j]? = some u) (hm : ¬ (0 ≤ o.k ∧ o.k < (n : Int))) :
    Calls Try.prog 15 #[.agg #[.int .i64 most, .slice a n c], .agg #[.int .i64 o.kd, .int .i64 o.i, .int .i64 o.k, .int .i64 o.f, .int .i64 o.t, .slice o.s.a o.s.len o.s.cap]] w (RefDo w P most (us.map L3.says, false, zSays)) := by
  obtain ⟨kd, oi, ok, of, ot, os⟩ := o
  simp only at hkd hi hm ⊢
  subst hkd hi
  have hji : (j : Int) < (n : Int) := by omega
  obtain ⟨b, off, rfl, c0, c1, c2⟩ := ref_at h (four_below w (.cells #[.int .i64 most, .slice a n c] 40) (.cells #[.int .i64 5, .int .i64 (j : Int), .int .i64 ok, .int .i64 of, .int .i64 ot, .slice os.a os.len os.cap] 50) (.cells #[.int .i64 0, .slice none 0 0] 40) (.cells #[.int .i64 0, .int .i64 0, .slice none 0 0] 45)) hj hu
  have H := Lib.hid h
  clear h
  by_cases h0 : ok < 0
  · go_enter Try.func15, Try.ntmps15
    go_wp2_with fail
    exact bodyPost_ret (results_cells_tmp Try.results15 rfl (load_two_ref ((heap_alloc_old _ _ (by simp)).trans (four_c w _ _ _ _))) rfl (load_three_ref ((heap_alloc_old _ _ (by simp)).trans (four_d w _ _ _ _)))) rfl (RefDo.mk (s := ⟨none, 0, 0, []⟩) rfl rfl rfl (H.out.below ((four_below _ _ _ _ _).alloc (by simp; omega) _)) (Sl.nil_ok _) ((four_below _ _ _ _ _).alloc (by simp; omega) _))
  · have h1 : ok ≥ (n : Int) := by omega
    go_enter Try.func15, Try.ntmps15
    go_wp2_with fail
    exact bodyPost_ret (results_cells_tmp Try.results15 rfl (load_two_ref ((heap_alloc_old _ _ (by simp)).trans (four_c w _ _ _ _))) rfl (load_three_ref ((heap_alloc_old _ _ (by simp)).trans (four_d w _ _ _ _)))) rfl (RefDo.mk (s := ⟨none, 0, 0, []⟩) rfl rfl rfl (H.out.below ((four_below _ _ _ _ _).alloc (by simp; omega) _)) (Sl.nil_ok _) ((four_below _ _ _ _ _).alloc (by simp; omega) _))

set_option maxRecDepth 100000 in
set_option maxHeartbeats 3200000 in
/-- a Short of no bytes -/
theorem rdo_empty (P : Nat → Prop) (us : List L3) (most : Int) (a : Option Addr) (n c : Nat) (o : OpL) (j : Nat) (u : L3) (w : World) (h : RefAt w P us a n) (hkd : o.kd = 6) (hi : o.i = (j : Int)) (hj : j < n) (hu : us[j]? = some u) (hm : u.s.len = 0) :
    Calls Try.prog 15 #[.agg #[.int .i64 most, .slice a n c], .agg #[.int .i64 o.kd, .int .i64 o.i, .int .i64 o.k, .int .i64 o.f, .int .i64 o.t, .slice o.s.a o.s.len o.s.cap]] w (RefDo w P most (us.map L3.says, false, zSays)) := by
  obtain ⟨kd, oi, ok, of, ot, os⟩ := o
  simp only at hkd hi ⊢
  subst hkd hi
  obtain ⟨uf, ut, ua, ul, uc, ub⟩ := u
  simp only at hm
  subst hm
  have hji : (j : Int) < (n : Int) := by omega
  obtain ⟨b, off, rfl, c0, c1, c2⟩ := ref_at h (four_below w (.cells #[.int .i64 most, .slice a n c] 40) (.cells #[.int .i64 6, .int .i64 (j : Int), .int .i64 ok, .int .i64 of, .int .i64 ot, .slice os.a os.len os.cap] 50) (.cells #[.int .i64 0, .slice none 0 0] 40) (.cells #[.int .i64 0, .int .i64 0, .slice none 0 0] 45)) hj hu
  have H := Lib.hid h
  clear h
  go_enter Try.func15, Try.ntmps15
  go_wp2_with fail
  exact bodyPost_ret (results_cells_tmp Try.results15 rfl (load_two_ref ((heap_alloc_old _ _ (by simp)).trans (four_c w _ _ _ _))) rfl (load_three_ref ((heap_alloc_old _ _ (by simp)).trans (four_d w _ _ _ _)))) rfl (RefDo.mk (s := ⟨none, 0, 0, []⟩) rfl rfl rfl (H.out.below ((four_below _ _ _ _ _).alloc (by simp; omega) _)) (Sl.nil_ok _) ((four_below _ _ _ _ _).alloc (by simp; omega) _))
end Go.Proofs.Ytnjbhjgihcgefaa
