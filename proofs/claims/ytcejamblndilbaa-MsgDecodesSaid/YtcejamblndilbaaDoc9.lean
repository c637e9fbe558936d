/- The document's Decode, whole; MsgDecodes: the walk. -/
import Derived.Test.YtcejamblndilbaaDoc4
import Derived.BigRegion
import Derived.Deep.RegionHeld3
import Derived.Test.YtcejamblndilbaaDoc8
import Derived.Test.YtcejamblndilbaaQ9
import Derived.Laws.NewBlocks
import Derived.Deep.DrawnRows
import Derived.Test.YtcejamblndilbaaAl2
namespace Go.Proofs.Ytcejamblndilbaa
open Go.RowKit

set_option maxRecDepth 100000 in
set_option maxHeartbeats 16000000 in
theorem dec17_frame (a : Option Addr) (n c : Nat) (b pay : List UInt8) (k code : Nat) (post : Ending → World → Prop) (w : World) (hr : Row8 w a n b) (hnc : n ≤ c) (hcm : c ≤ maxLen) (hpk : Fr.unframe b = (pay, k, code)) (hno : DocNo w post) (hbad : code ≠ 0 ∨ k ≠ n) :
    Calls Try.prog 17 #[.slice a n c] w post := by
  obtain ⟨D, hD⟩ : ∃ D, D = w.heap.size := ⟨_, rfl⟩
  obtain ⟨X, hX⟩ : ∃ X, X = w.alloc (.cells zeroM.cs 28) := ⟨_, rfl⟩
  have hXb : Below w.heap.size w X := hX ▸ below_alloc (Below.refl _ _) _
  have hd : X.heap[D]? = some (.cells zeroM.cs 28 (0, 0)) := by rw [hX, hD]; exact heap_alloc_new w _
  have hu := refunframe_all a n c b X (hr.below hXb) hnc hcm
  have hnm : n ≤ 9223372036854775807 := by simp only [maxLen] at hcm; omega
  rw [hpk] at hu
  simp only at hu
  have HNO := Lib.hid hno
  have HU := Lib.hid hu
  have HDD := Lib.hid hd
  have HX := Lib.hid hX
  have HXB := Lib.hid hXb
  have HD := Lib.hid hD
  clear hr hnc hcm hu hd hX hXb hpk hD hno
  unfold zeroM Ms.cs at HX
  simp only at HX
  go_enter Try.func17, Try.ntmps17
  go_wp2_with fail
  rw [← HX.out, ← HD.out]
  refine HU.out.mono ?_
  rintro e w2 ⟨ao, cap, rfl, hown, hb2⟩
  have hd2 := (hb2.block D (Array.getElem?_eq_some_iff.1 HDD.out).1).trans HDD.out
  have HB2 := Lib.hid (below_then HXB.out hb2)
  have HOW := Lib.hid hown
  have HD2 := Lib.hid hd2
  clear hb2 hown hd2 HU HX HXB HDD
  by_cases hbad1 : code ≠ 0
  · have hc1 : ((code : Int) != 0) = true := by simp; omega
    clear hbad hbad1
    go_upto_region 3 with fail
    go_wp2_with (first
      | (refine wpList_zeroM rfl rfl ?_)
      | (refine wpList_storeM rfl _ _ rfl D zeroM zeroM rfl rfl _ HD2.out ?_; intro wz hdz htz; have HDZ := Lib.hid hdz; have HTZ := Lib.hid htz; clear hdz htz))
    exact bodyPost_ret (results_cell_tmp Try.results17 rfl (load_msg HDZ.out)) rfl (HNO.out _ (below_of_touch HB2.out HTZ.out (Nat.le_of_eq HD.out.symm)))
  · have hc0 : code = 0 := by omega
    subst hc0
    have hc1 : ((k : Int) != (n : Int)) = true := by simp; omega
    clear hbad hbad1
    go_upto_region 3 with fail
    go_wp2_with (first
      | (refine wpList_zeroM rfl rfl ?_)
      | (refine wpList_storeM rfl _ _ rfl D zeroM zeroM rfl rfl _ HD2.out ?_; intro wz hdz htz; have HDZ := Lib.hid hdz; have HTZ := Lib.hid htz; clear hdz htz))
    exact bodyPost_ret (results_cell_tmp Try.results17 rfl (load_msg HDZ.out)) rfl (HNO.out _ (below_of_touch HB2.out HTZ.out (Nat.le_of_eq HD.out.symm)))

set_option maxRecDepth 100000 in
set_option maxHeartbeats 16000000 in
theorem dec17_head (a : Option Addr) (n c : Nat) (b pay : List UInt8) (k code : Nat) (post : Ending → World → Prop) (w : World) (hr : Row8 w a n b) (hnc : n ≤ c) (hcm : c ≤ maxLen) (hpk : Fr.unframe b = (pay, k, code)) (hno : DocNo w post) (hk : n = k) (hc : 0 = code) (hbad : takeP [1, 1, 1, 1] pay [] = none) :
    Calls Try.prog 17 #[.slice a n c] w post := by
  subst hk hc
  have HBAD := Lib.hid hbad
  clear hbad
  obtain ⟨D, hD⟩ : ∃ D, D = w.heap.size := ⟨_, rfl⟩
  obtain ⟨X, hX⟩ : ∃ X, X = w.alloc (.cells zeroM.cs 28) := ⟨_, rfl⟩
  have hXb : Below w.heap.size w X := hX ▸ below_alloc (Below.refl _ _) _
  have hd : X.heap[D]? = some (.cells zeroM.cs 28 (0, 0)) := by rw [hX, hD]; exact heap_alloc_new w _
  have hu := refunframe_all a n c b X (hr.below hXb) hnc hcm
  have hnm : n ≤ 9223372036854775807 := by simp only [maxLen] at hcm; omega
  rw [hpk] at hu
  simp only at hu
  have HNO := Lib.hid hno
  have HU := Lib.hid hu
  have HDD := Lib.hid hd
  have HX := Lib.hid hX
  have HXB := Lib.hid hXb
  have HD := Lib.hid hD
  clear hr hnc hcm hu hd hX hXb hpk hD hno
  unfold zeroM Ms.cs at HX
  simp only at HX
  go_enter Try.func17, Try.ntmps17
  go_wp2_with fail
  rw [← HX.out, ← HD.out]
  refine HU.out.mono ?_
  rintro e w2 ⟨ao, cap, rfl, hown, hb2⟩
  have hd2 := (hb2.block D (Array.getElem?_eq_some_iff.1 HDD.out).1).trans HDD.out
  have HB2 := Lib.hid (below_then HXB.out hb2)
  have HOW := Lib.hid hown
  have HD2 := Lib.hid hd2
  clear hb2 hown hd2 HU HX HXB HDD
  have hk1 : ∀ o, RowN (w2.alloc (.cells #[.int .i64 1, .int .i64 1, .int .i64 1, .int .i64 1] o)) (some ⟨w2.heap.size, 0, none⟩) 1 4 (cellsZ [1, 1, 1, 1]) := fun o => RowN.of_block (heap_alloc_new w2 _) rfl rfl
  have hr1 : ∀ o, Row8 (w2.alloc o) ao pay.length pay := fun o => (HOW.out.row.alloc o)
  have ht1 := fun o => take_any ao pay.length cap pay (some ⟨w2.heap.size, 0, none⟩) 4 4 [1, 1, 1, 1] (w2.alloc (.cells #[.int .i64 1, .int .i64 1, .int .i64 1, .int .i64 1] o)) (hr1 _) HOW.out.cap.1 HOW.out.cap.2 (hk1 o) (by decide) (fun z hz => .inl (by simpa using hz))
  have HT1 := Lib.hid ht1
  clear hk1 hr1 ht1
  go_wp2_with fail
  refine (HT1.out _).mono ?_
  rintro e w4 ⟨hb4, hn1, hy1⟩
  have HB4 := Lib.hid (below_then HB2.out (below_then (below_alloc (Below.refl _ _) _) hb4))
  have hd4 := ((below_then (below_alloc (Below.refl w2.heap.size w2) (.cells #[.int .i64 1, .int .i64 1, .int .i64 1, .int .i64 1] 3)) hb4).block D (Array.getElem?_eq_some_iff.1 HD2.out).1).trans HD2.out
  have HD4 := Lib.hid hd4
  have HB24 := Lib.hid hb4
  clear hb4 hd4 HT1
  have he := hn1 HBAD.out
  subst he
  clear hn1 hy1 HBAD
  go_upto_region 6 with fail
  go_wp2_with (first
    | (refine wpList_zeroM rfl rfl ?_)
    | (refine wpList_storeM rfl _ _ rfl D zeroM zeroM rfl rfl _ HD4.out ?_; intro wz hdz htz; have HDZ := Lib.hid hdz; have HTZ := Lib.hid htz; clear hdz htz))
  exact bodyPost_ret (results_cell_tmp Try.results17 rfl (load_msg HDZ.out)) rfl (HNO.out _ (below_of_touch HB4.out HTZ.out (Nat.le_of_eq HD.out.symm)))

set_option maxRecDepth 100000 in
set_option maxHeartbeats 16000000 in
theorem dec17_bad (a : Option Addr) (n c : Nat) (b pay : List UInt8) (k code : Nat) (post : Ending → World → Prop) (w : World) (hr : Row8 w a n b) (hnc : n ≤ c) (hcm : c ≤ maxLen) (hpk : Fr.unframe b = (pay, k, code)) (hno : DocNo w post) (hk : n = k) (hc : 0 = code) (h : List Pv) (r : List UInt8) (htk : takeP [1, 1, 1, 1] pay [] = some (h, r)) (hbad : headBad h) :
    Calls Try.prog 17 #[.slice a n c] w post := by
  subst hk hc
  have HTK := Lib.hid htk
  have HBAD := Lib.hid hbad
  clear htk hbad
  obtain ⟨D, hD⟩ : ∃ D, D = w.heap.size := ⟨_, rfl⟩
  obtain ⟨X, hX⟩ : ∃ X, X = w.alloc (.cells zeroM.cs 28) := ⟨_, rfl⟩
  have hXb : Below w.heap.size w X := hX ▸ below_alloc (Below.refl _ _) _
  have hd : X.heap[D]? = some (.cells zeroM.cs 28 (0, 0)) := by rw [hX, hD]; exact heap_alloc_new w _
  have hu := refunframe_all a n c b X (hr.below hXb) hnc hcm
  have hnm : n ≤ 9223372036854775807 := by simp only [maxLen] at hcm; omega
  rw [hpk] at hu
  simp only at hu
  have HNO := Lib.hid hno
  have HU := Lib.hid hu
  have HDD := Lib.hid hd
  have HX := Lib.hid hX
  have HXB := Lib.hid hXb
  have HD := Lib.hid hD
  clear hr hnc hcm hu hd hX hXb hpk hD hno
  unfold zeroM Ms.cs at HX
  simp only at HX
  go_enter Try.func17, Try.ntmps17
  go_wp2_with fail
  rw [← HX.out, ← HD.out]
  refine HU.out.mono ?_
  rintro e w2 ⟨ao, cap, rfl, hown, hb2⟩
  have hd2 := (hb2.block D (Array.getElem?_eq_some_iff.1 HDD.out).1).trans HDD.out
  have HB2 := Lib.hid (below_then HXB.out hb2)
  have HOW := Lib.hid hown
  have HD2 := Lib.hid hd2
  clear hb2 hown hd2 HU HX HXB HDD
  have hk1 : ∀ o, RowN (w2.alloc (.cells #[.int .i64 1, .int .i64 1, .int .i64 1, .int .i64 1] o)) (some ⟨w2.heap.size, 0, none⟩) 1 4 (cellsZ [1, 1, 1, 1]) := fun o => RowN.of_block (heap_alloc_new w2 _) rfl rfl
  have hr1 : ∀ o, Row8 (w2.alloc o) ao pay.length pay := fun o => (HOW.out.row.alloc o)
  have ht1 := fun o => take_any ao pay.length cap pay (some ⟨w2.heap.size, 0, none⟩) 4 4 [1, 1, 1, 1] (w2.alloc (.cells #[.int .i64 1, .int .i64 1, .int .i64 1, .int .i64 1] o)) (hr1 _) HOW.out.cap.1 HOW.out.cap.2 (hk1 o) (by decide) (fun z hz => .inl (by simpa using hz))
  have HT1 := Lib.hid ht1
  clear hk1 hr1 ht1
  go_wp2_with fail
  refine (HT1.out _).mono ?_
  rintro e w4 ⟨hb4, hn1, hy1⟩
  have HB4 := Lib.hid (below_then HB2.out (below_then (below_alloc (Below.refl _ _) _) hb4))
  have hd4 := ((below_then (below_alloc (Below.refl w2.heap.size w2) (.cells #[.int .i64 1, .int .i64 1, .int .i64 1, .int .i64 1] 3)) hb4).block D (Array.getElem?_eq_some_iff.1 HD2.out).1).trans HD2.out
  have HD4 := Lib.hid hd4
  have HB24 := Lib.hid hb4
  clear hb4 hd4 HT1
  obtain ⟨vs, av, nv, cv, ab, nb, cb, rfl, hpv, hov, hrb, hrl, hnb, hcb⟩ := hy1 _ _ HTK.out
  have hl4 := takeP_len _ _ _ _ _ HTK.out
  rw [← hpv, List.length_map] at hl4
  obtain ⟨v0, v1, v2, v3, rfl⟩ := list4 hl4
  obtain rfl : 4 = nv := hov.len
  obtain ⟨g, rfl, hgB, hgl, hc⟩ := hov.cells (by decide)
  have c0 : w4.cell? ⟨g, 1, none⟩ = some (.int .i64 v0.n) := (hc 0 v0 rfl).2.1
  have c1 : w4.cell? ⟨g, 6, none⟩ = some (.int .i64 v1.n) := (hc 1 v1 rfl).2.1
  have c2 : w4.cell? ⟨g, 11, none⟩ = some (.int .i64 v2.n) := (hc 2 v2 rfl).2.1
  have c3 : w4.cell? ⟨g, 16, none⟩ = some (.int .i64 v3.n) := (hc 3 v3 rfl).2.1
  subst hpv
  have hb : v0.n < 1 ∨ 8 < v0.n ∨ v1.n < 1 ∨ 7 < v1.n ∨ v2.n < 1 ∨ 7 < v2.n := HBAD.out
  clear hn1 hy1 HBAD HTK hov hrb hc hl4
  rcases (by omega : v0.n < 1 ∨ (1 ≤ v0.n ∧ 8 < v0.n) ∨ (1 ≤ v0.n ∧ v0.n ≤ 8 ∧ v1.n < 1) ∨ (1 ≤ v0.n ∧ v0.n ≤ 8 ∧ 1 ≤ v1.n ∧ 7 < v1.n) ∨ (1 ≤ v0.n ∧ v0.n ≤ 8 ∧ 1 ≤ v1.n ∧ v1.n ≤ 7 ∧ v2.n < 1) ∨ (1 ≤ v0.n ∧ v0.n ≤ 8 ∧ 1 ≤ v1.n ∧ v1.n ≤ 7 ∧ 1 ≤ v2.n ∧ 7 < v2.n)) with q | ⟨q1, q2⟩ | ⟨q1, q2, q3⟩ | ⟨q1, q2, q3, q4⟩ | ⟨q1, q2, q3, q4, q5⟩ | ⟨q1, q2, q3, q4, q5, q6⟩
  all_goals
    clear hb
    go_upto_region 6 with fail
    go_wp2_with (first
      | (refine wpList_zeroM rfl rfl ?_)
      | (refine wpList_storeM rfl _ _ rfl D zeroM zeroM rfl rfl _ HD4.out ?_; intro wz hdz htz; have HDZ := Lib.hid hdz; have HTZ := Lib.hid htz; clear hdz htz))
    exact bodyPost_ret (results_cell_tmp Try.results17 rfl (load_msg HDZ.out)) rfl (HNO.out _ (below_of_touch HB4.out HTZ.out (Nat.le_of_eq HD.out.symm)))

theorem kindsOf_good (k : Int) : ∀ z ∈ kindsOf k, goodK z := by
  intro z hz
  unfold kindsOf at hz
  unfold goodK
  split at hz
  · simp at hz; omega
  split at hz
  · simp at hz; omega
  split at hz
  · simp at hz; omega
  split at hz
  · simp at hz; omega
  split at hz <;> (simp at hz; omega)

attribute [local go_sem ↓] bare_built
set_option maxRecDepth 100000 in
set_option maxHeartbeats 16000000 in
theorem dec17_rest (a : Option Addr) (n c : Nat) (b pay : List UInt8) (k code : Nat) (post : Ending → World → Prop) (w : World) (hr : Row8 w a n b) (hnc : n ≤ c) (hcm : c ≤ maxLen) (hpk : Fr.unframe b = (pay, k, code)) (hno : DocNo w post) (hk : n = k) (hc : 0 = code) (h : List Pv) (r : List UInt8) (htk : takeP [1, 1, 1, 1] pay [] = some (h, r)) (hgood : ¬ headBad h) (htk2 : takeP (kindsOf (h.getD 0 pv0).n) r [] = none) :
    Calls Try.prog 17 #[.slice a n c] w post := by
  subst hk hc
  have HTK := Lib.hid htk
  have HGOOD := Lib.hid hgood
  have HTK2 := Lib.hid htk2
  clear htk hgood htk2
  obtain ⟨D, hD⟩ : ∃ D, D = w.heap.size := ⟨_, rfl⟩
  obtain ⟨X, hX⟩ : ∃ X, X = w.alloc (.cells zeroM.cs 28) := ⟨_, rfl⟩
  have hXb : Below w.heap.size w X := hX ▸ below_alloc (Below.refl _ _) _
  have hd : X.heap[D]? = some (.cells zeroM.cs 28 (0, 0)) := by rw [hX, hD]; exact heap_alloc_new w _
  have hu := refunframe_all a n c b X (hr.below hXb) hnc hcm
  have hnm : n ≤ 9223372036854775807 := by simp only [maxLen] at hcm; omega
  rw [hpk] at hu
  simp only at hu
  have HNO := Lib.hid hno
  have HU := Lib.hid hu
  have HDD := Lib.hid hd
  have HX := Lib.hid hX
  have HXB := Lib.hid hXb
  have HD := Lib.hid hD
  clear hr hnc hcm hu hd hX hXb hpk hD hno
  unfold zeroM Ms.cs at HX
  simp only at HX
  go_enter Try.func17, Try.ntmps17
  go_wp2_with fail
  rw [← HX.out, ← HD.out]
  refine HU.out.mono ?_
  rintro e w2 ⟨ao, cap, rfl, hown, hb2⟩
  have hd2 := (hb2.block D (Array.getElem?_eq_some_iff.1 HDD.out).1).trans HDD.out
  have HB2 := Lib.hid (below_then HXB.out hb2)
  have HOW := Lib.hid hown
  have HD2 := Lib.hid hd2
  clear hb2 hown hd2 HU HX HXB HDD
  have hk1 : ∀ o, RowN (w2.alloc (.cells #[.int .i64 1, .int .i64 1, .int .i64 1, .int .i64 1] o)) (some ⟨w2.heap.size, 0, none⟩) 1 4 (cellsZ [1, 1, 1, 1]) := fun o => RowN.of_block (heap_alloc_new w2 _) rfl rfl
  have hr1 : ∀ o, Row8 (w2.alloc o) ao pay.length pay := fun o => (HOW.out.row.alloc o)
  have ht1 := fun o => take_any ao pay.length cap pay (some ⟨w2.heap.size, 0, none⟩) 4 4 [1, 1, 1, 1] (w2.alloc (.cells #[.int .i64 1, .int .i64 1, .int .i64 1, .int .i64 1] o)) (hr1 _) HOW.out.cap.1 HOW.out.cap.2 (hk1 o) (by decide) (fun z hz => .inl (by simpa using hz))
  have HT1 := Lib.hid ht1
  clear hk1 hr1 ht1
  go_wp2_with fail
  refine (HT1.out _).mono ?_
  rintro e w4 ⟨hb4, hn1, hy1⟩
  have HB4 := Lib.hid (below_then HB2.out (below_then (below_alloc (Below.refl _ _) _) hb4))
  have hd4 := ((below_then (below_alloc (Below.refl w2.heap.size w2) (.cells #[.int .i64 1, .int .i64 1, .int .i64 1, .int .i64 1] 3)) hb4).block D (Array.getElem?_eq_some_iff.1 HD2.out).1).trans HD2.out
  have HD4 := Lib.hid hd4
  have HB24 := Lib.hid hb4
  clear hb4 hd4 HT1
  obtain ⟨vs, av, nv, cv, ab, nb, cb, rfl, hpv, hov, hrb, hrl, hnb, hcb⟩ := hy1 _ _ HTK.out
  have hl4 := takeP_len _ _ _ _ _ HTK.out
  rw [← hpv, List.length_map] at hl4
  obtain ⟨v0, v1, v2, v3, rfl⟩ := list4 hl4
  obtain rfl : 4 = nv := hov.len
  obtain ⟨g, rfl, hgB, hgl, hc⟩ := hov.cells (by decide)
  have c0 : w4.cell? ⟨g, 1, none⟩ = some (.int .i64 v0.n) := (hc 0 v0 rfl).2.1
  have c1 : w4.cell? ⟨g, 6, none⟩ = some (.int .i64 v1.n) := (hc 1 v1 rfl).2.1
  have c2 : w4.cell? ⟨g, 11, none⟩ = some (.int .i64 v2.n) := (hc 2 v2 rfl).2.1
  have c3 : w4.cell? ⟨g, 16, none⟩ = some (.int .i64 v3.n) := (hc 3 v3 rfl).2.1
  subst hpv
  have hb : (1 ≤ v0.n ∧ v0.n ≤ 8) ∧ (1 ≤ v1.n ∧ v1.n ≤ 7) ∧ (1 ≤ v2.n ∧ v2.n ≤ 7) := by
    have : ¬ (v0.n < 1 ∨ 8 < v0.n ∨ v1.n < 1 ∨ 7 < v1.n ∨ v2.n < 1 ∨ 7 < v2.n) := HGOOD.out
    omega
  obtain ⟨⟨b1, b2⟩, ⟨b3, b4⟩, b5, b6⟩ := hb
  obtain ⟨k0, n0, x0, s0, o0⟩ := v0
  have HTKN : Hid (takeP (kindsOf n0) r [] = none) := HTK2.out
  have HRB := Lib.hid hrb
  have HR4 := Lib.hid (HOW.out.row.below (below_then (below_alloc (Below.refl _ _) (.cells #[.int .i64 1, .int .i64 1, .int .i64 1, .int .i64 1] 3)) HB24.out))
  simp only at c0 b1 b2
  clear hn1 hy1 HGOOD HTK HTK2 hov hrb hc hl4 hrl
  go_upto_region 7 with fail
  go_region_held3 (fun w' => w'.cell? ⟨g, 1, none⟩ = some (.int .i64 n0) ∧ w'.cell? ⟨g, 6, none⟩ = some (.int .i64 v1.n) ∧ w'.cell? ⟨g, 11, none⟩ = some (.int .i64 v2.n) ∧ w'.cell? ⟨g, 16, none⟩ = some (.int .i64 v3.n)) (go_keep) (fail)
  rename_i hHeld
  clear hHeld
  obtain ⟨M, hM⟩ : ∃ M, M = w4.heap.size := ⟨_, rfl⟩
  obtain ⟨w5, hw5⟩ : ∃ w5, w5 = (w4.alloc (.cells (headM n0 v1.n v2.n v3.n).cs 28)).drew := ⟨_, rfl⟩
  have hb5 : Below w4.heap.size w4 w5 := hw5 ▸ (below_alloc (Below.refl _ _) _).drew
  have hm5 : w5.heap[M]? = some (.cells (headM n0 v1.n v2.n v3.n).cs 28 (0, 0)) := by rw [hw5, hM]; exact heap_alloc_new w4 _
  unfold headM Ms.cs at hw5
  simp only at hw5
  rw [← hw5, ← hM]
  have HB45 := Lib.hid hb5
  obtain ⟨m0, -⟩ := ms_cells hm5
  simp only [headM] at m0
  clear hw5 hb5 hm5 hM c0 c1 c2 c3 hgB hgl
  go_wp2_with fail
  refine (kinds_any n0 w5 ⟨b1, b2⟩).mono ?_
  rintro e w6 ⟨ak, nk, ck, rfl, hks, hn6, hb6⟩
  have HB46 := Lib.hid (below_then HB45.out hb6)
  have ht2 := take_any ab nb cb r ak nk ck (kindsOf n0) w6 (HRB.out _ (HR4.out.below HB46.out)) hnb hcb hks (by omega) (kindsOf_good n0)
  rw [HTKN.out] at ht2
  have HT2 := Lib.hid ht2
  clear hks hb6 ht2 m0 hn6 HTKN
  go_wp2_with fail
  refine HT2.out.mono ?_
  rintro e w7 ⟨hb7, hn7, -⟩
  have he := hn7 rfl
  subst he
  have HB7 := Lib.hid (below_then HB4.out (below_then HB46.out hb7))
  have HD7 := Lib.hid (((below_then HB46.out hb7).block D (Array.getElem?_eq_some_iff.1 HD4.out).1).trans HD4.out)
  clear hb7 hn7 HT2
  go_upto_region 10 with fail
  go_wp2_with (first
    | (refine wpList_zeroM rfl rfl ?_)
    | (refine wpList_storeM rfl _ _ rfl D zeroM zeroM rfl rfl _ HD7.out ?_; intro wz hdz htz; have HDZ := Lib.hid hdz; have HTZ := Lib.hid htz; clear hdz htz))
  exact bodyPost_ret (results_cell_tmp Try.results17 rfl (load_msg HDZ.out)) rfl (HNO.out _ (below_of_touch HB7.out HTZ.out (Nat.le_of_eq HD.out.symm)))

theorem rdecode17_any (a : Option Addr) (n c : Nat) (b : List UInt8) (w : World) (hr : Row8 w a n b) (hnc : n ≤ c) (hcm : c ≤ maxLen) :
    Calls Try.prog 17 #[.slice a n c] w (DocPost w b) := by
  have hbl : b.length = n := hr.1
  obtain ⟨pay, k, code, hpk⟩ : ∃ pay k code, Fr.unframe b = (pay, k, code) := ⟨_, _, _, rfl⟩
  have hdp : decP b = if code = 0 ∧ k = n then payP pay else none := by rw [decP, hpk, hbl]
  by_cases hbad : code ≠ 0 ∨ k ≠ n
  · exact dec17_frame a n c b pay k code _ w hr hnc hcm hpk (DocPost.no (by rw [hdp, if_neg (by omega)])) hbad
  have hc0 : code = 0 := by omega
  have hkn : k = n := by omega
  subst hc0 hkn
  rw [if_pos ⟨rfl, rfl⟩, ← docP_eq] at hdp
  cases htk : takeP [1, 1, 1, 1] pay [] with
  | none => exact dec17_head a k c b pay k 0 _ w hr hnc hcm hpk (DocPost.no (by rw [hdp, docP, htk])) rfl rfl htk
  | some q =>
    obtain ⟨h, r⟩ := q
    by_cases hg : headBad h
    · exact dec17_bad a k c b pay k 0 _ w hr hnc hcm hpk (DocPost.no (by rw [hdp, docP, htk]; simp only; rw [if_pos hg])) rfl rfl h r htk hg
    have hd2 : decP b = docEnd (docRest (pm0 (h.getD 0 pv0).n (h.getD 1 pv0).n (h.getD 2 pv0).n (h.getD 3 pv0).n) r) := by rw [hdp, docP, htk]; simp only; rw [if_neg hg]
    have hkr : 1 ≤ (h.getD 0 pv0).n ∧ (h.getD 0 pv0).n ≤ 8 := by unfold headBad at hg; omega
    cases htk2 : takeP (kindsOf (h.getD 0 pv0).n) r [] with
    | none => exact dec17_rest a k c b pay k 0 _ w hr hnc hcm hpk (DocPost.no (by rw [hd2, docRest]; simp only [pm0]; rw [htk2]; rfl)) rfl rfl h r htk hg htk2
    | some q2 =>
      obtain ⟨v, r2⟩ := q2
      have hd3 : docEnd (docKind (pm0 (h.getD 0 pv0).n (h.getD 1 pv0).n (h.getD 2 pv0).n (h.getD 3 pv0).n) v r2) = decP b := by rw [hd2, docRest]; simp only [pm0]; rw [htk2]
      have hno : decP b = none → DocNo w (DocPost w b) := DocPost.no
      have hyes : ∀ y, decP b = some y → DocYes w (DocPost w b) y := fun y hy => DocPost.yes hy
      have h8 : (h.getD 0 pv0).n = 1 ∨ (h.getD 0 pv0).n = 2 ∨ (h.getD 0 pv0).n = 3 ∨ (h.getD 0 pv0).n = 4 ∨ (h.getD 0 pv0).n = 5 ∨ (h.getD 0 pv0).n = 6 ∨ (h.getD 0 pv0).n = 7 ∨ (h.getD 0 pv0).n = 8 := by omega
      rcases h8 with hk | hk | hk | hk | hk | hk | hk | hk
      · rw [hk] at htk2 hd3; exact dec17_k1 a k c b pay _ w hr hnc hcm hpk h r htk hg hk v r2 htk2 _ hd3 hno hyes
      · rw [hk] at htk2 hd3; exact dec17_k2 a k c b pay _ w hr hnc hcm hpk h r htk hg hk v r2 htk2 _ hd3 hno hyes
      · rw [hk] at htk2 hd3; exact dec17_k3 a k c b pay _ w hr hnc hcm hpk h r htk hg hk v r2 htk2 _ hd3 hno hyes
      · rw [hk] at htk2 hd3; exact dec17_k4 a k c b pay _ w hr hnc hcm hpk h r htk hg hk v r2 htk2 _ hd3 hno hyes
      · rw [hk] at htk2 hd3; exact dec17_k5 a k c b pay _ w hr hnc hcm hpk h r htk hg hk v r2 htk2 _ hd3 hno hyes
      · rw [hk] at htk2 hd3; exact dec17_k6 a k c b pay _ w hr hnc hcm hpk h r htk hg hk v r2 htk2 _ hd3 hno hyes
      · rw [hk] at htk2 hd3; exact dec17_k7 a k c b pay _ w hr hnc hcm hpk h r htk hg hk v r2 htk2 _ hd3 hno hyes
      · rw [hk] at htk2 hd3; exact dec17_k8 a k c b pay _ w hr hnc hcm hpk h r htk hg hk v r2 htk2 _ hd3 hno hyes

theorem wpList_zeroM_want {ops : Array Oper} {rest : List Oper} {o : Oper} {a : Act} {w : World} {Q : Exit → Act → World → Prop} (hw : Region.wanted o (yielded ops a.tmps) = true) (ho : o.op = .build 28 #[])
    (h : wpList Try.prog ops Q rest (a.put o.dst (.agg zeroM.cs)) w) : wpList Try.prog ops Q (o :: rest) a w := by
  have e : Try.prog.built 28 ((#[] : Array (Nat × Operand)).map fun (i, x) => (i, a.eval x)).toList = some zeroM.cs := (congrArg (fun l : List (Nat × Value) => Try.prog.built 28 l) (by simp)).trans zeroM_built
  refine wpList_step fun K hK => ?_
  rw [if_pos hw]
  have := hK _ _ h
  unfold Oper.wp execOp
  simp only [ho, Sem.run_bind, run_build (P := Try.prog) w 28 _ _ e, Result.andThen_ok]
  exact this

set_option maxRecDepth 100000 in
set_option maxHeartbeats 16000000 in
theorem msgDecodes_walk (a : Option Addr) (len cap : Nat) (bs : List UInt8) (w : World) (hr : Row8 w a len bs) (hlc : len ≤ cap) (hcm : cap ≤ maxLen) (_hn : a = none → cap = 0) :
    Calls Try.prog 4 #[.slice a len cap] w fun e w' => e = .returned (.bool true) ∧ Below w.heap.size w w' := by
  obtain ⟨post, hpost⟩ : ∃ post : Ending → World → Prop, post = fun e w' => e = .returned (.bool true) ∧ Below w.heap.size w w' := ⟨_, rfl⟩
  rw [← hpost]
  have hP : ∀ w', Below w.heap.size w w' → post (.returned (.bool true)) w' := fun w' h => by rw [hpost]; exact ⟨rfl, h⟩
  have HP := Lib.hid hP
  have HR := Lib.hid hr
  have HCM := Lib.hid hcm
  clear hpost hP hr hcm
  go_enter Try.func4, Try.ntmps4
  go_wp2_with fail
  refine (alive17_any w).mono ?_
  rintro e w1 ⟨rfl, hb1⟩
  have hd := decode_any a len cap bs w1 (HR.out.below hb1) hlc HCM.out
  have HD := Lib.hid hd
  have HB1 := Lib.hid hb1
  clear hd hb1
  go_wp2_with fail
  refine HD.out.mono ?_
  rintro e w2 ⟨m, rfl, hpl, hmo, hb2⟩
  have HB2 := Lib.hid (below_then HB1.out hb2)
  have HMO := Lib.hid hmo
  have HPL := Lib.hid hpl
  obtain ⟨cd, hcd⟩ : ∃ cd : Int, cd = if decP bs = none then 30 else 0 := ⟨_, rfl⟩
  rw [← hcd]
  have HCD := Lib.hid hcd
  clear hb2 hmo hpl HD hcd
  go_upto_region 4 with (first
    | (refine wpList_storeM rfl _ _ rfl w2.heap.size m zeroM rfl rfl _ (heap_alloc_new w2 _) ?_; intro w3 hd3 ht3; have HD3 := Lib.hid hd3; have HT3 := Lib.hid ht3; clear hd3 ht3))
  have hb3 : Below w2.heap.size w2 w3 := below_of_touch (below_alloc (Below.refl _ _) _) HT3.out (Nat.le_refl _)
  have hmo3 : MOwn w3 w1.heap.size m := HMO.out.keep fun g _ hl => (HT3.out.block g (by rw [World.size_alloc]; omega) (by simp; omega)).trans (heap_alloc_old _ _ hl)
  have HB3 := Lib.hid (below_then HB2.out hb3)
  have HMO3 := Lib.hid hmo3
  have hrd := rdecode17_any a len cap bs w3 (HR.out.below HB3.out) hlc HCM.out
  have HRD := Lib.hid hrd
  clear hb3 hmo3 hrd HT3 HMO
  go_wp2_with fail
  refine HRD.out.mono ?_
  rintro e w4 ⟨n, rfl, hpn, hno, hcn, hb4⟩
  have hd4 := (hb4.block _ (Array.getElem?_eq_some_iff.1 HD3.out).1).trans HD3.out
  have hmo4 := HMO3.out.keep fun g _ hl => hb4.block g hl
  have HD4 := Lib.hid hd4
  have HMO4 := Lib.hid hmo4
  have HPN := Lib.hid hpn
  have HNO := Lib.hid hno
  have HCN := Lib.hid hcn
  have HB4 := Lib.hid (below_then HB3.out hb4)
  have hlt4 : w2.heap.size < w4.heap.size := (Array.getElem?_eq_some_iff.1 HD4.out).1
  obtain ⟨ok, hok⟩ : ∃ ok, ok = (decP bs).isSome := ⟨_, rfl⟩
  rw [← hok]
  have HOK := Lib.hid hok
  clear hb4 hd4 hmo4 hpn hno hcn hok HRD HD3 HMO3 HB2 HB3
  go_upto_region 5 with (first
    | (refine wpList_storeM rfl _ _ rfl w4.heap.size n zeroM rfl rfl _ (heap_alloc_new w4 _) ?_; intro w5 hd5 ht5; have HD5 := Lib.hid hd5; have HT5 := Lib.hid ht5; clear hd5 ht5))
  have hb5 : Below w4.heap.size w4 w5 := below_of_touch (below_alloc (Below.refl _ _) _) HT5.out (Nat.le_refl _)
  have hd45 := (hb5.block _ hlt4).trans HD4.out
  have hmo5 := HMO4.out.keep fun g _ hl => hb5.block g hl
  have hno5 := HNO.out.below hb5
  have HB5 := Lib.hid (below_then HB4.out hb5)
  have HDM := Lib.hid hd45
  clear hb5 hd45
  cases hdp : decP bs with
  | none =>
    have hpm : m.plain = zeroM.plain := by have := HPL.out; rw [hdp] at this; exact this
    have heq := requal_any m zeroM w5 hmo5.ok (zeroM_ok _) (own_len hmo5)
    rw [sameM_plain hpm] at heq
    have HEQ := Lib.hid heq
    obtain rfl : cd = 30 := by rw [HCD.out, hdp]; rfl
    obtain rfl : ok = false := by rw [HOK.out, hdp]; rfl
    clear hdp hpm heq hmo5 hno5
    go_wp2_with (first
      | (refine wpList_loadM_want rfl _ rfl w2.heap.size m _ rfl HDM.out ?_)
      | (refine wpList_zeroM_want rfl rfl ?_))
    refine HEQ.out.mono ?_
    rintro e w6 ⟨rfl, hb6⟩
    have HB6 := Lib.hid (below_then HB5.out hb6)
    clear hb6
    go_wp2_with fail
    exact HP.out _ HB6.out
  | some x =>
    have hpm : m.plain = n.plain := by
      have h1 := HPL.out
      have h2 := HPN.out
      rw [hdp] at h1 h2
      exact h1.trans h2.symm
    have heq := requal_any m n w5 hmo5.ok hno5 (own_len hmo5)
    rw [sameM_plain hpm] at heq
    have HEQ := Lib.hid heq
    obtain rfl : cd = 0 := by rw [HCD.out, hdp, if_neg (by simp)]
    obtain rfl : ok = true := by rw [HOK.out, hdp]; rfl
    clear hdp hpm heq hmo5 hno5
    go_wp2_with (first
      | (refine wpList_loadM_want rfl _ rfl w2.heap.size m _ rfl HDM.out ?_)
      | (refine wpList_loadM_want rfl _ rfl w4.heap.size n _ rfl HD5.out ?_))
    refine HEQ.out.mono ?_
    rintro e w6 ⟨rfl, hb6⟩
    have HB6 := Lib.hid (below_then HB5.out hb6)
    clear hb6
    go_wp2_with fail
    exact HP.out _ HB6.out

end Go.Proofs.Ytcejamblndilbaa
