/- The document's Decode: the walk: the kinds that hold no memory. -/
import Derived.Test.YtcejamblndilbaaDoc4
import Derived.Test.YtcejamblndilbaaQ9
import Derived.Laws.NewBlocks
import Derived.Deep.DrawnRows
import Derived.BigRegion
import Derived.Deep.RegionHeld3
namespace Go.Proofs.Ytcejamblndilbaa
open Go.RowKit

theorem wpList_loadM_want {ops : Array Oper} {rest : List Oper} {o : Oper} {a : Act} {w : World} {Q : Exit → Act → World → Prop} (hw : Region.wanted o (yielded ops a.tmps) = true) (x : Operand) (ho : o.op = .load 28 x)
    (C : Nat) (m : Ms) (t : TypeId) (hx : a.eval x = .pointer (some ⟨C, 0, none⟩)) (hC : w.heap[C]? = some (.cells m.cs t (0, 0)))
    (h : wpList Try.prog ops Q rest (a.put o.dst (.agg m.cs)) w) : wpList Try.prog ops Q (o :: rest) a w :=
  wpList_step fun _ hK => by
    rw [if_pos hw]
    exact wp_load_mid 28 x ho C 0 hx m.cs.toList _ (fun j v hv => by
    simp only [World.cell?, hC, Nat.zero_add]
    rw [← hv]; simp) Try.underlying28 rfl (by show _ = some 14; kernel_rfl) (hK _ _ (by simpa using h))
def bareM (k f t n i lt cm : Int) (ok : Bool) (off : Int) (last : Bool) : Ms := ⟨k, f, t, n, i, lt, cm, ok, none, 0, 0, [], off, ⟨none, 0, 0, []⟩, last, ⟨⟨none, 0, 0, []⟩, ⟨none, 0, 0, []⟩⟩⟩
theorem bareM_ap (w : World) (B : Nat) (k f t n i lt cm : Int) (ok : Bool) (off : Int) (last : Bool) : MAp w B (bareM k f t n i lt cm ok off last) :=
  ⟨World.ownsRow_nil _ _ _ _, rfl, fun e he => (by cases he), Own8.nil _ _, ⟨⟨RowN.nil _ _ _, fun _ => ⟨rfl, rfl⟩⟩, ⟨RowN.nil _ _ _, fun _ => ⟨rfl, rfl⟩⟩⟩, ⟨fun b off e => (by cases e), fun b off e => (by cases e)⟩, ⟨Nat.zero_le _, Nat.zero_le _⟩⟩

attribute [local go_sem ↓] bare_built
set_option maxRecDepth 100000 in
set_option maxHeartbeats 16000000 in
theorem dec17_k1 (a : Option Addr) (n c : Nat) (b pay : List UInt8) (post : Ending → World → Prop) (w : World) (hr : Row8 w a n b) (hnc : n ≤ c) (hcm : c ≤ maxLen) (hpk : Fr.unframe b = (pay, n, 0)) (h : List Pv) (r : List UInt8) (htk : takeP [1, 1, 1, 1] pay [] = some (h, r)) (hgood : ¬ headBad h) (hkd : (h.getD 0 pv0).n = 1)
    (v : List Pv) (r2 : List UInt8) (htk2 : takeP [1, 1] r [] = some (v, r2)) (res : Option Pm) (hres : docEnd (docKind (pm0 1 (h.getD 1 pv0).n (h.getD 2 pv0).n (h.getD 3 pv0).n) v r2) = res) (hno : res = none → DocNo w post) (hyes : ∀ y, res = some y → DocYes w post y) :
    Calls Try.prog 17 #[.slice a n c] w post := by
  have HTK := Lib.hid htk
  have HGOOD := Lib.hid hgood
  have HKD := Lib.hid hkd
  have HTK2 := Lib.hid htk2
  have HRES := Lib.hid hres
  clear htk hgood hkd htk2 hres
  obtain ⟨D, hD⟩ : ∃ D, D = w.heap.size := ⟨_, rfl⟩
  obtain ⟨X, hX⟩ : ∃ X, X = w.alloc (.cells zeroM.cs 28) := ⟨_, rfl⟩
  have hXb : Below w.heap.size w X := hX ▸ below_alloc (Below.refl _ _) _
  have hd : X.heap[D]? = some (.cells zeroM.cs 28 (0, 0)) := by rw [hX, hD]; exact heap_alloc_new w _
  have hu := refunframe_all a n c b X (hr.below hXb) hnc hcm
  have hnm : n ≤ 9223372036854775807 := by simp only [maxLen] at hcm; omega
  rw [hpk] at hu
  simp only at hu
  have HNO := Lib.hid hno
  have HYES := Lib.hid hyes
  have HU := Lib.hid hu
  have HDD := Lib.hid hd
  have HX := Lib.hid hX
  have HXB := Lib.hid hXb
  have HD := Lib.hid hD
  clear hr hnc hcm hu hd hX hXb hpk hD hno hyes
  unfold zeroM Ms.cs at HX
  simp only at HX
  go_enter Try.func17, Try.ntmps17
  go_wp2_with fail
  rw [← HX.out, ← HD.out]
  refine HU.out.mono ?_
  rintro e w2 ⟨ao, cap, rfl, hown, hb2⟩
  have hd2 := (hb2.block D (Array.getElem?_eq_some_iff.1 HDD.out).1).trans HDD.out
  have HB2 := Lib.hid (below_then HXB.out hb2)
  have HOW := Lib.hid hown
  have HD2 := Lib.hid hd2
  clear hb2 hown hd2 HU HX HXB HDD
  have hk1 : ∀ o, RowN (w2.alloc (.cells #[.int .i64 1, .int .i64 1, .int .i64 1, .int .i64 1] o)) (some ⟨w2.heap.size, 0, none⟩) 1 4 (cellsZ [1, 1, 1, 1]) := fun o => RowN.of_block (heap_alloc_new w2 _) rfl rfl
  have hr1 : ∀ o, Row8 (w2.alloc o) ao pay.length pay := fun o => (HOW.out.row.alloc o)
  have ht1 := fun o => take_any ao pay.length cap pay (some ⟨w2.heap.size, 0, none⟩) 4 4 [1, 1, 1, 1] (w2.alloc (.cells #[.int .i64 1, .int .i64 1, .int .i64 1, .int .i64 1] o)) (hr1 _) HOW.out.cap.1 HOW.out.cap.2 (hk1 o) (by decide) (fun z hz => .inl (by simpa using hz))
  have HT1 := Lib.hid ht1
  clear hk1 hr1 ht1
  go_wp2_with fail
  refine (HT1.out _).mono ?_
  rintro e w4 ⟨hb4, hn1, hy1⟩
  have HB4 := Lib.hid (below_then HB2.out (below_then (below_alloc (Below.refl _ _) _) hb4))
  have hd4 := ((below_then (below_alloc (Below.refl w2.heap.size w2) (.cells #[.int .i64 1, .int .i64 1, .int .i64 1, .int .i64 1] 3)) hb4).block D (Array.getElem?_eq_some_iff.1 HD2.out).1).trans HD2.out
  have HD4 := Lib.hid hd4
  have HB24 := Lib.hid hb4
  clear hb4 hd4 HT1
  obtain ⟨vs, av, nv, cv, ab, nb, cb, rfl, hpv, hov, hrb, hrl, hnb, hcb⟩ := hy1 _ _ HTK.out
  have hl4 := takeP_len _ _ _ _ _ HTK.out
  rw [← hpv, List.length_map] at hl4
  obtain ⟨v0, v1, v2, v3, rfl⟩ := list4 hl4
  obtain rfl : 4 = nv := hov.len
  obtain ⟨g, rfl, hgB, hgl, hc⟩ := hov.cells (by decide)
  have c0 : w4.cell? ⟨g, 1, none⟩ = some (.int .i64 v0.n) := (hc 0 v0 rfl).2.1
  have c1 : w4.cell? ⟨g, 6, none⟩ = some (.int .i64 v1.n) := (hc 1 v1 rfl).2.1
  have c2 : w4.cell? ⟨g, 11, none⟩ = some (.int .i64 v2.n) := (hc 2 v2 rfl).2.1
  have c3 : w4.cell? ⟨g, 16, none⟩ = some (.int .i64 v3.n) := (hc 3 v3 rfl).2.1
  subst hpv
  have hb : (1 ≤ v1.n ∧ v1.n ≤ 7) ∧ (1 ≤ v2.n ∧ v2.n ≤ 7) := by
    have : ¬ (v0.n < 1 ∨ 8 < v0.n ∨ v1.n < 1 ∨ 7 < v1.n ∨ v2.n < 1 ∨ 7 < v2.n) := HGOOD.out
    omega
  obtain ⟨⟨b3, b4⟩, b5, b6⟩ := hb
  obtain ⟨k0, n0, x0, s0, o0⟩ := v0
  have hkd : n0 = 1 := HKD.out
  subst hkd
  have hres2 : docEnd (docKind (pm0 1 v1.n v2.n v3.n) v r2) = res := HRES.out
  have HRES2 := Lib.hid hres2
  have HRB := Lib.hid hrb
  have hlo1 : w.heap.size ≤ w2.heap.size := HB2.out.size
  have HR4 := Lib.hid (HOW.out.row.below (below_then (below_alloc (Below.refl _ _) (.cells #[.int .i64 1, .int .i64 1, .int .i64 1, .int .i64 1] 3)) HB24.out))
  simp only at c0
  clear hn1 hy1 HGOOD HTK HKD HRES hres2 hov hrb hc hl4 hrl
  go_upto_region 7 with fail
  go_region_held3 (fun w' => w'.cell? ⟨g, 1, none⟩ = some (.int .i64 1) ∧ w'.cell? ⟨g, 6, none⟩ = some (.int .i64 v1.n) ∧ w'.cell? ⟨g, 11, none⟩ = some (.int .i64 v2.n) ∧ w'.cell? ⟨g, 16, none⟩ = some (.int .i64 v3.n)) (go_keep) (fail)
  rename_i hHeld
  clear hHeld
  obtain ⟨M, hM⟩ : ∃ M, M = w4.heap.size := ⟨_, rfl⟩
  obtain ⟨w5, hw5⟩ : ∃ w5, w5 = (w4.alloc (.cells (headM 1 v1.n v2.n v3.n).cs 28)).drew := ⟨_, rfl⟩
  have hb5 : Below w4.heap.size w4 w5 := hw5 ▸ (below_alloc (Below.refl _ _) _).drew
  have hm5 : w5.heap[M]? = some (.cells (headM 1 v1.n v2.n v3.n).cs 28 (0, 0)) := by rw [hw5, hM]; exact heap_alloc_new w4 _
  unfold headM Ms.cs at hw5
  simp only at hw5
  rw [← hw5, ← hM]
  have HM := Lib.hid hM
  have HB45 := Lib.hid hb5
  have HM5 := Lib.hid hm5
  have hDM : D < M := by have := (Array.getElem?_eq_some_iff.1 HD4.out).1; omega
  have hwM : w.heap.size ≤ M := by have := HB4.out.size; omega
  obtain ⟨m0, -⟩ := ms_cells hm5
  simp only [headM] at m0
  clear hw5 hb5 hm5 hM c0 c1 c2 c3 hgB hgl
  go_wp2_with fail
  refine (kinds_any 1 w5 (by decide)).mono ?_
  rintro e w6 ⟨ak, nk, ck, rfl, hks, hn6, hb6⟩
  have hks' : RowN w6 ak 1 nk (cellsZ [1, 1]) := hks
  have HB46 := Lib.hid (below_then HB45.out hb6)
  have ht2 := take_any ab nb cb r ak nk ck [1, 1] w6 (HRB.out _ (HR4.out.below HB46.out)) hnb hcb hks' (by omega) (fun z hz => by simp at hz; simp only [goodK]; omega)
  have HT2 := Lib.hid ht2
  have HM6 := Lib.hid ((hb6.block M (Array.getElem?_eq_some_iff.1 HM5.out).1).trans HM5.out)
  have hM6 : M < w6.heap.size := (Array.getElem?_eq_some_iff.1 HM6.out).1
  clear hks hks' hb6 ht2 m0 hn6 HM5
  go_wp2_with fail
  refine HT2.out.mono ?_
  rintro e w7 ⟨hb7, -, hy2⟩
  obtain ⟨us, au, nu, cu, ab2, nb2, cb2, rfl, hpv2, hov2, hrb2, hrl2, hnb2, hcb2⟩ := hy2 _ _ HTK2.out
  have HB47 := Lib.hid (below_then HB46.out hb7)
  have hm7 := (hb7.block M (Array.getElem?_eq_some_iff.1 HM6.out).1).trans HM6.out
  have hd7 := (HB47.out.block D (Array.getElem?_eq_some_iff.1 HD4.out).1).trans HD4.out
  have hb07 : Below w.heap.size w w7 := below_then HB4.out HB47.out
  have hl2 := takeP_len _ _ _ _ _ HTK2.out
  rw [← hpv2, List.length_map] at hl2
  obtain ⟨u0, u1, rfl⟩ := list2 hl2
  obtain rfl : 2 = nu := hov2.len
  obtain ⟨g2, rfl, hg2B, hg2l, hc2⟩ := hov2.cells (by decide)
  have d0 : w7.cell? ⟨g2, 1, none⟩ = some (.int .i64 u0.n) := (hc2 0 u0 rfl).2.1
  have d1 : w7.cell? ⟨g2, 6, none⟩ = some (.int .i64 u1.n) := (hc2 1 u1 rfl).2.1
  have hne : g2 ≠ M := by omega
  have hne' : M ≠ g2 := by omega
  subst hpv2
  obtain ⟨m0, m1, m2, m3, m4, m5, m6, m7, m8, m9, m10, m11, m12, m13⟩ := ms_cells hm7
  simp only [headM] at m0 m1 m2 m3 m4 m5 m6 m7 m8 m9 m10 m11 m12 m13
  clear m1 m2 m3
  have HB7 := Lib.hid hb07
  have HM7 := Lib.hid hm7
  have HD7 := Lib.hid hd7
  have HOV2 := Lib.hid hov2
  have HRB2 := Lib.hid hrb2
  have hM7 : M < w7.heap.size := (Array.getElem?_eq_some_iff.1 HM7.out).1
  have f4 : w7.frozen? ⟨M, 4, none⟩ = false := by simp [World.frozen?, HM7.out]
  have f5 : w7.frozen? ⟨M, 5, none⟩ = false := by simp [World.frozen?, HM7.out]
  clear hb7 hy2 hm7 hd7 hb07 hl2 hov2 hrb2 hc2 hg2B HT2 HTK2 HM6 HB46
  go_upto_region 50 with fail
  obtain ⟨w8, hw8⟩ : ∃ w8, w8 = ((w7.setCell ⟨M, 4, none⟩ (.int .i64 u0.n)).setCell ⟨M, 5, none⟩ (.int .i64 u1.n)) := ⟨_, rfl⟩
  obtain ⟨m, hme⟩ : ∃ m : Ms, m = bareM 1 v1.n v2.n v3.n u0.n u1.n 0 false 0 false := ⟨_, rfl⟩
  have hm8 : w8.heap[M]? = some (.cells m.cs 28 (0, 0)) := by rw [hme, hw8]; exact (set_block (i := 5) (set_block (i := 4) HM7.out _) _)
  have ht8 : Touch [M] w7 w8 := by rw [hw8]; exact (touch_set ((touch_set (Touch.refl _ _) _ _ _ (by simp))) _ _ _ (by simp))
  have hmap : MAp w8 (M + 1) m := by rw [hme]; exact bareM_ap _ _ _ _ _ _ _ _ _ _ _ _
  have hr8 : docEnd (some (m.plain, r2)) = res := by rw [hme]; exact HRES2.out
  rw [← hw8]
  have HM8 := Lib.hid hm8
  have HMAP := Lib.hid hmap
  have HRES8 := Lib.hid hr8
  have HD8 := Lib.hid ((ht8.block D (Array.getElem?_eq_some_iff.1 HD7.out).1 (by simp; omega)).trans HD7.out)
  have HB8 := Lib.hid (below_of_touch HB7.out ht8 hwM)
  clear hw8 hme hm8 ht8 hmap hr8 HM7 HD7 HRES2 m0 m4 m5 m6 m7 m8 m9 m10 m11 m12 m13 f4 f5 d0 d1
  by_cases h0 : nb2 = 0
  · subst h0
    have hr2 : r2 = [] := List.eq_nil_of_length_eq_zero hrl2
    subst hr2
    have hri := rright17_any m w8 HMAP.out.ok HMAP.out.clen
    rw [rightM_plain HMAP.out.ok] at hri
    have hre : (if rightP m.plain = true then some m.plain else none) = res := HRES8.out
    cases hrp : rightP m.plain with
    | false =>
      rw [hrp] at hri hre
      have HNN := Lib.hid (HNO.out hre.symm)
      have HRI := Lib.hid hri
      clear hri hre hrp hrl2
      go_wp2_with (first
        | (refine wpList_loadM_want rfl _ rfl M m _ rfl HM8.out ?_))
      refine HRI.out.mono ?_
      rintro e w9 ⟨rfl, hb9⟩
      have HD9 := Lib.hid ((hb9.block D (Array.getElem?_eq_some_iff.1 HD8.out).1).trans HD8.out)
      have HB9 := Lib.hid (below_then HB8.out hb9)
      clear hb9
      go_upto_region 51 with fail
      go_wp2_with (first
        | (refine wpList_zeroM rfl rfl ?_)
        | (refine wpList_storeM rfl _ _ rfl D zeroM zeroM rfl rfl _ HD9.out ?_; intro wz hdz htz; have HDZ := Lib.hid hdz; have HTZ := Lib.hid htz; clear hdz htz))
      exact bodyPost_ret (results_cell_tmp Try.results17 rfl (load_msg HDZ.out)) rfl (HNN.out _ (below_of_touch HB9.out HTZ.out (Nat.le_of_eq HD.out.symm)))
    | true =>
      rw [hrp] at hri hre
      have HYY := Lib.hid (HYES.out _ hre.symm)
      have HRI := Lib.hid hri
      clear hri hre hrp hrl2
      go_wp2_with (first
        | (refine wpList_loadM_want rfl _ rfl M m _ rfl HM8.out ?_))
      refine HRI.out.mono ?_
      rintro e w9 ⟨rfl, hb9⟩
      have HD9 := Lib.hid ((hb9.block D (Array.getElem?_eq_some_iff.1 HD8.out).1).trans HD8.out)
      have HM9 := Lib.hid ((hb9.block M (Array.getElem?_eq_some_iff.1 HM8.out).1).trans HM8.out)
      have HB9 := Lib.hid (below_then HB8.out hb9)
      have HMAP9 := Lib.hid (HMAP.out.below hb9)
      clear hb9
      go_upto_region 52 with fail
      go_wp2_with (first
        | (refine wpList_loadM rfl _ rfl M m _ rfl HM9.out ?_)
        | (refine wpList_storeM rfl _ _ rfl D m zeroM rfl rfl _ HD9.out ?_; intro wz hdz htz; have HDZ := Lib.hid hdz; have HTZ := Lib.hid htz; clear hdz htz))
      exact bodyPost_ret (results_cell_tmp Try.results17 rfl (load_msg HDZ.out)) rfl (HYY.out m _ rfl (HMAP9.out.keep (w' := wz) fun g hg hl => HTZ.out.block g hl (by simp; omega)).ok HMAP9.out.clen (below_of_touch HB9.out HTZ.out (Nat.le_of_eq HD.out.symm)))
  · have hi : (0 : Int) < (nb2 : Int) := by omega
    have hre : res = none := by
      rw [← HRES8.out]
      cases r2 with
      | nil => simp at hrl2; omega
      | cons x y => rfl
    have HNN := Lib.hid (HNO.out hre)
    clear h0 hre hrl2
    go_upto_region 51 with fail
    go_wp2_with (first
      | (refine wpList_zeroM rfl rfl ?_)
      | (refine wpList_storeM rfl _ _ rfl D zeroM zeroM rfl rfl _ HD8.out ?_; intro wz hdz htz; have HDZ := Lib.hid hdz; have HTZ := Lib.hid htz; clear hdz htz))
    exact bodyPost_ret (results_cell_tmp Try.results17 rfl (load_msg HDZ.out)) rfl (HNN.out _ (below_of_touch HB8.out HTZ.out (Nat.le_of_eq HD.out.symm)))

set_option maxRecDepth 100000 in
set_option maxHeartbeats 16000000 in
theorem dec17_k2 (a : Option Addr) (n c : Nat) (b pay : List UInt8) (post : Ending → World → Prop) (w : World) (hr : Row8 w a n b) (hnc : n ≤ c) (hcm : c ≤ maxLen) (hpk : Fr.unframe b = (pay, n, 0)) (h : List Pv) (r : List UInt8) (htk : takeP [1, 1, 1, 1] pay [] = some (h, r)) (hgood : ¬ headBad h) (hkd : (h.getD 0 pv0).n = 2)
    (v : List Pv) (r2 : List UInt8) (htk2 : takeP [4] r [] = some (v, r2)) (res : Option Pm) (hres : docEnd (docKind (pm0 2 (h.getD 1 pv0).n (h.getD 2 pv0).n (h.getD 3 pv0).n) v r2) = res) (hno : res = none → DocNo w post) (hyes : ∀ y, res = some y → DocYes w post y) :
    Calls Try.prog 17 #[.slice a n c] w post := by
  have HTK := Lib.hid htk
  have HGOOD := Lib.hid hgood
  have HKD := Lib.hid hkd
  have HTK2 := Lib.hid htk2
  have HRES := Lib.hid hres
  clear htk hgood hkd htk2 hres
  obtain ⟨D, hD⟩ : ∃ D, D = w.heap.size := ⟨_, rfl⟩
  obtain ⟨X, hX⟩ : ∃ X, X = w.alloc (.cells zeroM.cs 28) := ⟨_, rfl⟩
  have hXb : Below w.heap.size w X := hX ▸ below_alloc (Below.refl _ _) _
  have hd : X.heap[D]? = some (.cells zeroM.cs 28 (0, 0)) := by rw [hX, hD]; exact heap_alloc_new w _
  have hu := refunframe_all a n c b X (hr.below hXb) hnc hcm
  have hnm : n ≤ 9223372036854775807 := by simp only [maxLen] at hcm; omega
  rw [hpk] at hu
  simp only at hu
  have HNO := Lib.hid hno
  have HYES := Lib.hid hyes
  have HU := Lib.hid hu
  have HDD := Lib.hid hd
  have HX := Lib.hid hX
  have HXB := Lib.hid hXb
  have HD := Lib.hid hD
  clear hr hnc hcm hu hd hX hXb hpk hD hno hyes
  unfold zeroM Ms.cs at HX
  simp only at HX
  go_enter Try.func17, Try.ntmps17
  go_wp2_with fail
  rw [← HX.out, ← HD.out]
  refine HU.out.mono ?_
  rintro e w2 ⟨ao, cap, rfl, hown, hb2⟩
  have hd2 := (hb2.block D (Array.getElem?_eq_some_iff.1 HDD.out).1).trans HDD.out
  have HB2 := Lib.hid (below_then HXB.out hb2)
  have HOW := Lib.hid hown
  have HD2 := Lib.hid hd2
  clear hb2 hown hd2 HU HX HXB HDD
  have hk1 : ∀ o, RowN (w2.alloc (.cells #[.int .i64 1, .int .i64 1, .int .i64 1, .int .i64 1] o)) (some ⟨w2.heap.size, 0, none⟩) 1 4 (cellsZ [1, 1, 1, 1]) := fun o => RowN.of_block (heap_alloc_new w2 _) rfl rfl
  have hr1 : ∀ o, Row8 (w2.alloc o) ao pay.length pay := fun o => (HOW.out.row.alloc o)
  have ht1 := fun o => take_any ao pay.length cap pay (some ⟨w2.heap.size, 0, none⟩) 4 4 [1, 1, 1, 1] (w2.alloc (.cells #[.int .i64 1, .int .i64 1, .int .i64 1, .int .i64 1] o)) (hr1 _) HOW.out.cap.1 HOW.out.cap.2 (hk1 o) (by decide) (fun z hz => .inl (by simpa using hz))
  have HT1 := Lib.hid ht1
  clear hk1 hr1 ht1
  go_wp2_with fail
  refine (HT1.out _).mono ?_
  rintro e w4 ⟨hb4, hn1, hy1⟩
  have HB4 := Lib.hid (below_then HB2.out (below_then (below_alloc (Below.refl _ _) _) hb4))
  have hd4 := ((below_then (below_alloc (Below.refl w2.heap.size w2) (.cells #[.int .i64 1, .int .i64 1, .int .i64 1, .int .i64 1] 3)) hb4).block D (Array.getElem?_eq_some_iff.1 HD2.out).1).trans HD2.out
  have HD4 := Lib.hid hd4
  have HB24 := Lib.hid hb4
  clear hb4 hd4 HT1
  obtain ⟨vs, av, nv, cv, ab, nb, cb, rfl, hpv, hov, hrb, hrl, hnb, hcb⟩ := hy1 _ _ HTK.out
  have hl4 := takeP_len _ _ _ _ _ HTK.out
  rw [← hpv, List.length_map] at hl4
  obtain ⟨v0, v1, v2, v3, rfl⟩ := list4 hl4
  obtain rfl : 4 = nv := hov.len
  obtain ⟨g, rfl, hgB, hgl, hc⟩ := hov.cells (by decide)
  have c0 : w4.cell? ⟨g, 1, none⟩ = some (.int .i64 v0.n) := (hc 0 v0 rfl).2.1
  have c1 : w4.cell? ⟨g, 6, none⟩ = some (.int .i64 v1.n) := (hc 1 v1 rfl).2.1
  have c2 : w4.cell? ⟨g, 11, none⟩ = some (.int .i64 v2.n) := (hc 2 v2 rfl).2.1
  have c3 : w4.cell? ⟨g, 16, none⟩ = some (.int .i64 v3.n) := (hc 3 v3 rfl).2.1
  subst hpv
  have hb : (1 ≤ v1.n ∧ v1.n ≤ 7) ∧ (1 ≤ v2.n ∧ v2.n ≤ 7) := by
    have : ¬ (v0.n < 1 ∨ 8 < v0.n ∨ v1.n < 1 ∨ 7 < v1.n ∨ v2.n < 1 ∨ 7 < v2.n) := HGOOD.out
    omega
  obtain ⟨⟨b3, b4⟩, b5, b6⟩ := hb
  obtain ⟨k0, n0, x0, s0, o0⟩ := v0
  have hkd : n0 = 2 := HKD.out
  subst hkd
  have hres2 : docEnd (docKind (pm0 2 v1.n v2.n v3.n) v r2) = res := HRES.out
  have HRES2 := Lib.hid hres2
  have HRB := Lib.hid hrb
  have hlo1 : w.heap.size ≤ w2.heap.size := HB2.out.size
  have HR4 := Lib.hid (HOW.out.row.below (below_then (below_alloc (Below.refl _ _) (.cells #[.int .i64 1, .int .i64 1, .int .i64 1, .int .i64 1] 3)) HB24.out))
  simp only at c0
  clear hn1 hy1 HGOOD HTK HKD HRES hres2 hov hrb hc hl4 hrl
  go_upto_region 7 with fail
  go_region_held3 (fun w' => w'.cell? ⟨g, 1, none⟩ = some (.int .i64 2) ∧ w'.cell? ⟨g, 6, none⟩ = some (.int .i64 v1.n) ∧ w'.cell? ⟨g, 11, none⟩ = some (.int .i64 v2.n) ∧ w'.cell? ⟨g, 16, none⟩ = some (.int .i64 v3.n)) (go_keep) (fail)
  rename_i hHeld
  clear hHeld
  obtain ⟨M, hM⟩ : ∃ M, M = w4.heap.size := ⟨_, rfl⟩
  obtain ⟨w5, hw5⟩ : ∃ w5, w5 = (w4.alloc (.cells (headM 2 v1.n v2.n v3.n).cs 28)).drew := ⟨_, rfl⟩
  have hb5 : Below w4.heap.size w4 w5 := hw5 ▸ (below_alloc (Below.refl _ _) _).drew
  have hm5 : w5.heap[M]? = some (.cells (headM 2 v1.n v2.n v3.n).cs 28 (0, 0)) := by rw [hw5, hM]; exact heap_alloc_new w4 _
  unfold headM Ms.cs at hw5
  simp only at hw5
  rw [← hw5, ← hM]
  have HM := Lib.hid hM
  have HB45 := Lib.hid hb5
  have HM5 := Lib.hid hm5
  have hDM : D < M := by have := (Array.getElem?_eq_some_iff.1 HD4.out).1; omega
  have hwM : w.heap.size ≤ M := by have := HB4.out.size; omega
  obtain ⟨m0, -⟩ := ms_cells hm5
  simp only [headM] at m0
  clear hw5 hb5 hm5 hM c0 c1 c2 c3 hgB hgl
  go_wp2_with fail
  refine (kinds_any 2 w5 (by decide)).mono ?_
  rintro e w6 ⟨ak, nk, ck, rfl, hks, hn6, hb6⟩
  have hks' : RowN w6 ak 1 nk (cellsZ [4]) := hks
  have HB46 := Lib.hid (below_then HB45.out hb6)
  have ht2 := take_any ab nb cb r ak nk ck [4] w6 (HRB.out _ (HR4.out.below HB46.out)) hnb hcb hks' (by omega) (fun z hz => by simp at hz; simp only [goodK]; omega)
  have HT2 := Lib.hid ht2
  have HM6 := Lib.hid ((hb6.block M (Array.getElem?_eq_some_iff.1 HM5.out).1).trans HM5.out)
  have hM6 : M < w6.heap.size := (Array.getElem?_eq_some_iff.1 HM6.out).1
  clear hks hks' hb6 ht2 m0 hn6 HM5
  go_wp2_with fail
  refine HT2.out.mono ?_
  rintro e w7 ⟨hb7, -, hy2⟩
  obtain ⟨us, au, nu, cu, ab2, nb2, cb2, rfl, hpv2, hov2, hrb2, hrl2, hnb2, hcb2⟩ := hy2 _ _ HTK2.out
  have HB47 := Lib.hid (below_then HB46.out hb7)
  have hm7 := (hb7.block M (Array.getElem?_eq_some_iff.1 HM6.out).1).trans HM6.out
  have hd7 := (HB47.out.block D (Array.getElem?_eq_some_iff.1 HD4.out).1).trans HD4.out
  have hb07 : Below w.heap.size w w7 := below_then HB4.out HB47.out
  have hl2 := takeP_len _ _ _ _ _ HTK2.out
  rw [← hpv2, List.length_map] at hl2
  obtain ⟨u0, rfl⟩ := list1 hl2
  obtain rfl : 1 = nu := hov2.len
  obtain ⟨g2, rfl, hg2B, hg2l, hc2⟩ := hov2.cells (by decide)
  have d0 : w7.cell? ⟨g2, 4, none⟩ = some (.bool u0.on) := (hc2 0 u0 rfl).2.2.2.2
  have hne : g2 ≠ M := by omega
  have hne' : M ≠ g2 := by omega
  subst hpv2
  obtain ⟨m0, m1, m2, m3, m4, m5, m6, m7, m8, m9, m10, m11, m12, m13⟩ := ms_cells hm7
  simp only [headM] at m0 m1 m2 m3 m4 m5 m6 m7 m8 m9 m10 m11 m12 m13
  clear m1 m2 m3
  have HB7 := Lib.hid hb07
  have HM7 := Lib.hid hm7
  have HD7 := Lib.hid hd7
  have HOV2 := Lib.hid hov2
  have HRB2 := Lib.hid hrb2
  have hM7 : M < w7.heap.size := (Array.getElem?_eq_some_iff.1 HM7.out).1
  have f7 : w7.frozen? ⟨M, 7, none⟩ = false := by simp [World.frozen?, HM7.out]
  clear hb7 hy2 hm7 hd7 hb07 hl2 hov2 hrb2 hc2 hg2B HT2 HTK2 HM6 HB46
  go_upto_region 50 with fail
  obtain ⟨w8, hw8⟩ : ∃ w8, w8 = (w7.setCell ⟨M, 7, none⟩ (.bool u0.on)) := ⟨_, rfl⟩
  obtain ⟨m, hme⟩ : ∃ m : Ms, m = bareM 2 v1.n v2.n v3.n 0 0 0 u0.on 0 false := ⟨_, rfl⟩
  have hm8 : w8.heap[M]? = some (.cells m.cs 28 (0, 0)) := by rw [hme, hw8]; exact (set_block (i := 7) HM7.out _)
  have ht8 : Touch [M] w7 w8 := by rw [hw8]; exact (touch_set (Touch.refl _ _) _ _ _ (by simp))
  have hmap : MAp w8 (M + 1) m := by rw [hme]; exact bareM_ap _ _ _ _ _ _ _ _ _ _ _ _
  have hr8 : docEnd (some (m.plain, r2)) = res := by rw [hme]; exact HRES2.out
  rw [← hw8]
  have HM8 := Lib.hid hm8
  have HMAP := Lib.hid hmap
  have HRES8 := Lib.hid hr8
  have HD8 := Lib.hid ((ht8.block D (Array.getElem?_eq_some_iff.1 HD7.out).1 (by simp; omega)).trans HD7.out)
  have HB8 := Lib.hid (below_of_touch HB7.out ht8 hwM)
  clear hw8 hme hm8 ht8 hmap hr8 HM7 HD7 HRES2 m0 m4 m5 m6 m7 m8 m9 m10 m11 m12 m13 f7 d0
  by_cases h0 : nb2 = 0
  · subst h0
    have hr2 : r2 = [] := List.eq_nil_of_length_eq_zero hrl2
    subst hr2
    have hri := rright17_any m w8 HMAP.out.ok HMAP.out.clen
    rw [rightM_plain HMAP.out.ok] at hri
    have hre : (if rightP m.plain = true then some m.plain else none) = res := HRES8.out
    cases hrp : rightP m.plain with
    | false =>
      rw [hrp] at hri hre
      have HNN := Lib.hid (HNO.out hre.symm)
      have HRI := Lib.hid hri
      clear hri hre hrp hrl2
      go_wp2_with (first
        | (refine wpList_loadM_want rfl _ rfl M m _ rfl HM8.out ?_))
      refine HRI.out.mono ?_
      rintro e w9 ⟨rfl, hb9⟩
      have HD9 := Lib.hid ((hb9.block D (Array.getElem?_eq_some_iff.1 HD8.out).1).trans HD8.out)
      have HB9 := Lib.hid (below_then HB8.out hb9)
      clear hb9
      go_upto_region 51 with fail
      go_wp2_with (first
        | (refine wpList_zeroM rfl rfl ?_)
        | (refine wpList_storeM rfl _ _ rfl D zeroM zeroM rfl rfl _ HD9.out ?_; intro wz hdz htz; have HDZ := Lib.hid hdz; have HTZ := Lib.hid htz; clear hdz htz))
      exact bodyPost_ret (results_cell_tmp Try.results17 rfl (load_msg HDZ.out)) rfl (HNN.out _ (below_of_touch HB9.out HTZ.out (Nat.le_of_eq HD.out.symm)))
    | true =>
      rw [hrp] at hri hre
      have HYY := Lib.hid (HYES.out _ hre.symm)
      have HRI := Lib.hid hri
      clear hri hre hrp hrl2
      go_wp2_with (first
        | (refine wpList_loadM_want rfl _ rfl M m _ rfl HM8.out ?_))
      refine HRI.out.mono ?_
      rintro e w9 ⟨rfl, hb9⟩
      have HD9 := Lib.hid ((hb9.block D (Array.getElem?_eq_some_iff.1 HD8.out).1).trans HD8.out)
      have HM9 := Lib.hid ((hb9.block M (Array.getElem?_eq_some_iff.1 HM8.out).1).trans HM8.out)
      have HB9 := Lib.hid (below_then HB8.out hb9)
      have HMAP9 := Lib.hid (HMAP.out.below hb9)
      clear hb9
      go_upto_region 52 with fail
      go_wp2_with (first
        | (refine wpList_loadM rfl _ rfl M m _ rfl HM9.out ?_)
        | (refine wpList_storeM rfl _ _ rfl D m zeroM rfl rfl _ HD9.out ?_; intro wz hdz htz; have HDZ := Lib.hid hdz; have HTZ := Lib.hid htz; clear hdz htz))
      exact bodyPost_ret (results_cell_tmp Try.results17 rfl (load_msg HDZ.out)) rfl (HYY.out m _ rfl (HMAP9.out.keep (w' := wz) fun g hg hl => HTZ.out.block g hl (by simp; omega)).ok HMAP9.out.clen (below_of_touch HB9.out HTZ.out (Nat.le_of_eq HD.out.symm)))
  · have hi : (0 : Int) < (nb2 : Int) := by omega
    have hre : res = none := by
      rw [← HRES8.out]
      cases r2 with
      | nil => simp at hrl2; omega
      | cons x y => rfl
    have HNN := Lib.hid (HNO.out hre)
    clear h0 hre hrl2
    go_upto_region 51 with fail
    go_wp2_with (first
      | (refine wpList_zeroM rfl rfl ?_)
      | (refine wpList_storeM rfl _ _ rfl D zeroM zeroM rfl rfl _ HD8.out ?_; intro wz hdz htz; have HDZ := Lib.hid hdz; have HTZ := Lib.hid htz; clear hdz htz))
    exact bodyPost_ret (results_cell_tmp Try.results17 rfl (load_msg HDZ.out)) rfl (HNN.out _ (below_of_touch HB8.out HTZ.out (Nat.le_of_eq HD.out.symm)))

set_option maxRecDepth 100000 in
set_option maxHeartbeats 16000000 in
theorem dec17_k3 (a : Option Addr) (n c : Nat) (b pay : List UInt8) (post : Ending → World → Prop) (w : World) (hr : Row8 w a n b) (hnc : n ≤ c) (hcm : c ≤ maxLen) (hpk : Fr.unframe b = (pay, n, 0)) (h : List Pv) (r : List UInt8) (htk : takeP [1, 1, 1, 1] pay [] = some (h, r)) (hgood : ¬ headBad h) (hkd : (h.getD 0 pv0).n = 3)
    (v : List Pv) (r2 : List UInt8) (htk2 : takeP [1, 1] r [] = some (v, r2)) (res : Option Pm) (hres : docEnd (docKind (pm0 3 (h.getD 1 pv0).n (h.getD 2 pv0).n (h.getD 3 pv0).n) v r2) = res) (hno : res = none → DocNo w post) (hyes : ∀ y, res = some y → DocYes w post y) :
    Calls Try.prog 17 #[.slice a n c] w post := by
  have HTK := Lib.hid htk
  have HGOOD := Lib.hid hgood
  have HKD := Lib.hid hkd
  have HTK2 := Lib.hid htk2
  have HRES := Lib.hid hres
  clear htk hgood hkd htk2 hres
  obtain ⟨D, hD⟩ : ∃ D, D = w.heap.size := ⟨_, rfl⟩
  obtain ⟨X, hX⟩ : ∃ X, X = w.alloc (.cells zeroM.cs 28) := ⟨_, rfl⟩
  have hXb : Below w.heap.size w X := hX ▸ below_alloc (Below.refl _ _) _
  have hd : X.heap[D]? = some (.cells zeroM.cs 28 (0, 0)) := by rw [hX, hD]; exact heap_alloc_new w _
  have hu := refunframe_all a n c b X (hr.below hXb) hnc hcm
  have hnm : n ≤ 9223372036854775807 := by simp only [maxLen] at hcm; omega
  rw [hpk] at hu
  simp only at hu
  have HNO := Lib.hid hno
  have HYES := Lib.hid hyes
  have HU := Lib.hid hu
  have HDD := Lib.hid hd
  have HX := Lib.hid hX
  have HXB := Lib.hid hXb
  have HD := Lib.hid hD
  clear hr hnc hcm hu hd hX hXb hpk hD hno hyes
  unfold zeroM Ms.cs at HX
  simp only at HX
  go_enter Try.func17, Try.ntmps17
  go_wp2_with fail
  rw [← HX.out, ← HD.out]
  refine HU.out.mono ?_
  rintro e w2 ⟨ao, cap, rfl, hown, hb2⟩
  have hd2 := (hb2.block D (Array.getElem?_eq_some_iff.1 HDD.out).1).trans HDD.out
  have HB2 := Lib.hid (below_then HXB.out hb2)
  have HOW := Lib.hid hown
  have HD2 := Lib.hid hd2
  clear hb2 hown hd2 HU HX HXB HDD
  have hk1 : ∀ o, RowN (w2.alloc (.cells #[.int .i64 1, .int .i64 1, .int .i64 1, .int .i64 1] o)) (some ⟨w2.heap.size, 0, none⟩) 1 4 (cellsZ [1, 1, 1, 1]) := fun o => RowN.of_block (heap_alloc_new w2 _) rfl rfl
  have hr1 : ∀ o, Row8 (w2.alloc o) ao pay.length pay := fun o => (HOW.out.row.alloc o)
  have ht1 := fun o => take_any ao pay.length cap pay (some ⟨w2.heap.size, 0, none⟩) 4 4 [1, 1, 1, 1] (w2.alloc (.cells #[.int .i64 1, .int .i64 1, .int .i64 1, .int .i64 1] o)) (hr1 _) HOW.out.cap.1 HOW.out.cap.2 (hk1 o) (by decide) (fun z hz => .inl (by simpa using hz))
  have HT1 := Lib.hid ht1
  clear hk1 hr1 ht1
  go_wp2_with fail
  refine (HT1.out _).mono ?_
  rintro e w4 ⟨hb4, hn1, hy1⟩
  have HB4 := Lib.hid (below_then HB2.out (below_then (below_alloc (Below.refl _ _) _) hb4))
  have hd4 := ((below_then (below_alloc (Below.refl w2.heap.size w2) (.cells #[.int .i64 1, .int .i64 1, .int .i64 1, .int .i64 1] 3)) hb4).block D (Array.getElem?_eq_some_iff.1 HD2.out).1).trans HD2.out
  have HD4 := Lib.hid hd4
  have HB24 := Lib.hid hb4
  clear hb4 hd4 HT1
  obtain ⟨vs, av, nv, cv, ab, nb, cb, rfl, hpv, hov, hrb, hrl, hnb, hcb⟩ := hy1 _ _ HTK.out
  have hl4 := takeP_len _ _ _ _ _ HTK.out
  rw [← hpv, List.length_map] at hl4
  obtain ⟨v0, v1, v2, v3, rfl⟩ := list4 hl4
  obtain rfl : 4 = nv := hov.len
  obtain ⟨g, rfl, hgB, hgl, hc⟩ := hov.cells (by decide)
  have c0 : w4.cell? ⟨g, 1, none⟩ = some (.int .i64 v0.n) := (hc 0 v0 rfl).2.1
  have c1 : w4.cell? ⟨g, 6, none⟩ = some (.int .i64 v1.n) := (hc 1 v1 rfl).2.1
  have c2 : w4.cell? ⟨g, 11, none⟩ = some (.int .i64 v2.n) := (hc 2 v2 rfl).2.1
  have c3 : w4.cell? ⟨g, 16, none⟩ = some (.int .i64 v3.n) := (hc 3 v3 rfl).2.1
  subst hpv
  have hb : (1 ≤ v1.n ∧ v1.n ≤ 7) ∧ (1 ≤ v2.n ∧ v2.n ≤ 7) := by
    have : ¬ (v0.n < 1 ∨ 8 < v0.n ∨ v1.n < 1 ∨ 7 < v1.n ∨ v2.n < 1 ∨ 7 < v2.n) := HGOOD.out
    omega
  obtain ⟨⟨b3, b4⟩, b5, b6⟩ := hb
  obtain ⟨k0, n0, x0, s0, o0⟩ := v0
  have hkd : n0 = 3 := HKD.out
  subst hkd
  have hres2 : docEnd (docKind (pm0 3 v1.n v2.n v3.n) v r2) = res := HRES.out
  have HRES2 := Lib.hid hres2
  have HRB := Lib.hid hrb
  have hlo1 : w.heap.size ≤ w2.heap.size := HB2.out.size
  have HR4 := Lib.hid (HOW.out.row.below (below_then (below_alloc (Below.refl _ _) (.cells #[.int .i64 1, .int .i64 1, .int .i64 1, .int .i64 1] 3)) HB24.out))
  simp only at c0
  clear hn1 hy1 HGOOD HTK HKD HRES hres2 hov hrb hc hl4 hrl
  go_upto_region 7 with fail
  go_region_held3 (fun w' => w'.cell? ⟨g, 1, none⟩ = some (.int .i64 3) ∧ w'.cell? ⟨g, 6, none⟩ = some (.int .i64 v1.n) ∧ w'.cell? ⟨g, 11, none⟩ = some (.int .i64 v2.n) ∧ w'.cell? ⟨g, 16, none⟩ = some (.int .i64 v3.n)) (go_keep) (fail)
  rename_i hHeld
  clear hHeld
  obtain ⟨M, hM⟩ : ∃ M, M = w4.heap.size := ⟨_, rfl⟩
  obtain ⟨w5, hw5⟩ : ∃ w5, w5 = (w4.alloc (.cells (headM 3 v1.n v2.n v3.n).cs 28)).drew := ⟨_, rfl⟩
  have hb5 : Below w4.heap.size w4 w5 := hw5 ▸ (below_alloc (Below.refl _ _) _).drew
  have hm5 : w5.heap[M]? = some (.cells (headM 3 v1.n v2.n v3.n).cs 28 (0, 0)) := by rw [hw5, hM]; exact heap_alloc_new w4 _
  unfold headM Ms.cs at hw5
  simp only at hw5
  rw [← hw5, ← hM]
  have HM := Lib.hid hM
  have HB45 := Lib.hid hb5
  have HM5 := Lib.hid hm5
  have hDM : D < M := by have := (Array.getElem?_eq_some_iff.1 HD4.out).1; omega
  have hwM : w.heap.size ≤ M := by have := HB4.out.size; omega
  obtain ⟨m0, -⟩ := ms_cells hm5
  simp only [headM] at m0
  clear hw5 hb5 hm5 hM c0 c1 c2 c3 hgB hgl
  go_wp2_with fail
  refine (kinds_any 3 w5 (by decide)).mono ?_
  rintro e w6 ⟨ak, nk, ck, rfl, hks, hn6, hb6⟩
  have hks' : RowN w6 ak 1 nk (cellsZ [1, 1]) := hks
  have HB46 := Lib.hid (below_then HB45.out hb6)
  have ht2 := take_any ab nb cb r ak nk ck [1, 1] w6 (HRB.out _ (HR4.out.below HB46.out)) hnb hcb hks' (by omega) (fun z hz => by simp at hz; simp only [goodK]; omega)
  have HT2 := Lib.hid ht2
  have HM6 := Lib.hid ((hb6.block M (Array.getElem?_eq_some_iff.1 HM5.out).1).trans HM5.out)
  have hM6 : M < w6.heap.size := (Array.getElem?_eq_some_iff.1 HM6.out).1
  clear hks hks' hb6 ht2 m0 hn6 HM5
  go_wp2_with fail
  refine HT2.out.mono ?_
  rintro e w7 ⟨hb7, -, hy2⟩
  obtain ⟨us, au, nu, cu, ab2, nb2, cb2, rfl, hpv2, hov2, hrb2, hrl2, hnb2, hcb2⟩ := hy2 _ _ HTK2.out
  have HB47 := Lib.hid (below_then HB46.out hb7)
  have hm7 := (hb7.block M (Array.getElem?_eq_some_iff.1 HM6.out).1).trans HM6.out
  have hd7 := (HB47.out.block D (Array.getElem?_eq_some_iff.1 HD4.out).1).trans HD4.out
  have hb07 : Below w.heap.size w w7 := below_then HB4.out HB47.out
  have hl2 := takeP_len _ _ _ _ _ HTK2.out
  rw [← hpv2, List.length_map] at hl2
  obtain ⟨u0, u1, rfl⟩ := list2 hl2
  obtain rfl : 2 = nu := hov2.len
  obtain ⟨g2, rfl, hg2B, hg2l, hc2⟩ := hov2.cells (by decide)
  have d0 : w7.cell? ⟨g2, 1, none⟩ = some (.int .i64 u0.n) := (hc2 0 u0 rfl).2.1
  have d1 : w7.cell? ⟨g2, 6, none⟩ = some (.int .i64 u1.n) := (hc2 1 u1 rfl).2.1
  have hne : g2 ≠ M := by omega
  have hne' : M ≠ g2 := by omega
  subst hpv2
  obtain ⟨m0, m1, m2, m3, m4, m5, m6, m7, m8, m9, m10, m11, m12, m13⟩ := ms_cells hm7
  simp only [headM] at m0 m1 m2 m3 m4 m5 m6 m7 m8 m9 m10 m11 m12 m13
  clear m1 m2 m3
  have HB7 := Lib.hid hb07
  have HM7 := Lib.hid hm7
  have HD7 := Lib.hid hd7
  have HOV2 := Lib.hid hov2
  have HRB2 := Lib.hid hrb2
  have hM7 : M < w7.heap.size := (Array.getElem?_eq_some_iff.1 HM7.out).1
  have f4 : w7.frozen? ⟨M, 4, none⟩ = false := by simp [World.frozen?, HM7.out]
  have f5 : w7.frozen? ⟨M, 5, none⟩ = false := by simp [World.frozen?, HM7.out]
  clear hb7 hy2 hm7 hd7 hb07 hl2 hov2 hrb2 hc2 hg2B HT2 HTK2 HM6 HB46
  go_upto_region 50 with fail
  obtain ⟨w8, hw8⟩ : ∃ w8, w8 = ((w7.setCell ⟨M, 4, none⟩ (.int .i64 u0.n)).setCell ⟨M, 5, none⟩ (.int .i64 u1.n)) := ⟨_, rfl⟩
  obtain ⟨m, hme⟩ : ∃ m : Ms, m = bareM 3 v1.n v2.n v3.n u0.n u1.n 0 false 0 false := ⟨_, rfl⟩
  have hm8 : w8.heap[M]? = some (.cells m.cs 28 (0, 0)) := by rw [hme, hw8]; exact (set_block (i := 5) (set_block (i := 4) HM7.out _) _)
  have ht8 : Touch [M] w7 w8 := by rw [hw8]; exact (touch_set ((touch_set (Touch.refl _ _) _ _ _ (by simp))) _ _ _ (by simp))
  have hmap : MAp w8 (M + 1) m := by rw [hme]; exact bareM_ap _ _ _ _ _ _ _ _ _ _ _ _
  have hr8 : docEnd (some (m.plain, r2)) = res := by rw [hme]; exact HRES2.out
  rw [← hw8]
  have HM8 := Lib.hid hm8
  have HMAP := Lib.hid hmap
  have HRES8 := Lib.hid hr8
  have HD8 := Lib.hid ((ht8.block D (Array.getElem?_eq_some_iff.1 HD7.out).1 (by simp; omega)).trans HD7.out)
  have HB8 := Lib.hid (below_of_touch HB7.out ht8 hwM)
  clear hw8 hme hm8 ht8 hmap hr8 HM7 HD7 HRES2 m0 m4 m5 m6 m7 m8 m9 m10 m11 m12 m13 f4 f5 d0 d1
  by_cases h0 : nb2 = 0
  · subst h0
    have hr2 : r2 = [] := List.eq_nil_of_length_eq_zero hrl2
    subst hr2
    have hri := rright17_any m w8 HMAP.out.ok HMAP.out.clen
    rw [rightM_plain HMAP.out.ok] at hri
    have hre : (if rightP m.plain = true then some m.plain else none) = res := HRES8.out
    cases hrp : rightP m.plain with
    | false =>
      rw [hrp] at hri hre
      have HNN := Lib.hid (HNO.out hre.symm)
      have HRI := Lib.hid hri
      clear hri hre hrp hrl2
      go_wp2_with (first
        | (refine wpList_loadM_want rfl _ rfl M m _ rfl HM8.out ?_))
      refine HRI.out.mono ?_
      rintro e w9 ⟨rfl, hb9⟩
      have HD9 := Lib.hid ((hb9.block D (Array.getElem?_eq_some_iff.1 HD8.out).1).trans HD8.out)
      have HB9 := Lib.hid (below_then HB8.out hb9)
      clear hb9
      go_upto_region 51 with fail
      go_wp2_with (first
        | (refine wpList_zeroM rfl rfl ?_)
        | (refine wpList_storeM rfl _ _ rfl D zeroM zeroM rfl rfl _ HD9.out ?_; intro wz hdz htz; have HDZ := Lib.hid hdz; have HTZ := Lib.hid htz; clear hdz htz))
      exact bodyPost_ret (results_cell_tmp Try.results17 rfl (load_msg HDZ.out)) rfl (HNN.out _ (below_of_touch HB9.out HTZ.out (Nat.le_of_eq HD.out.symm)))
    | true =>
      rw [hrp] at hri hre
      have HYY := Lib.hid (HYES.out _ hre.symm)
      have HRI := Lib.hid hri
      clear hri hre hrp hrl2
      go_wp2_with (first
        | (refine wpList_loadM_want rfl _ rfl M m _ rfl HM8.out ?_))
      refine HRI.out.mono ?_
      rintro e w9 ⟨rfl, hb9⟩
      have HD9 := Lib.hid ((hb9.block D (Array.getElem?_eq_some_iff.1 HD8.out).1).trans HD8.out)
      have HM9 := Lib.hid ((hb9.block M (Array.getElem?_eq_some_iff.1 HM8.out).1).trans HM8.out)
      have HB9 := Lib.hid (below_then HB8.out hb9)
      have HMAP9 := Lib.hid (HMAP.out.below hb9)
      clear hb9
      go_upto_region 52 with fail
      go_wp2_with (first
        | (refine wpList_loadM rfl _ rfl M m _ rfl HM9.out ?_)
        | (refine wpList_storeM rfl _ _ rfl D m zeroM rfl rfl _ HD9.out ?_; intro wz hdz htz; have HDZ := Lib.hid hdz; have HTZ := Lib.hid htz; clear hdz htz))
      exact bodyPost_ret (results_cell_tmp Try.results17 rfl (load_msg HDZ.out)) rfl (HYY.out m _ rfl (HMAP9.out.keep (w' := wz) fun g hg hl => HTZ.out.block g hl (by simp; omega)).ok HMAP9.out.clen (below_of_touch HB9.out HTZ.out (Nat.le_of_eq HD.out.symm)))
  · have hi : (0 : Int) < (nb2 : Int) := by omega
    have hre : res = none := by
      rw [← HRES8.out]
      cases r2 with
      | nil => simp at hrl2; omega
      | cons x y => rfl
    have HNN := Lib.hid (HNO.out hre)
    clear h0 hre hrl2
    go_upto_region 51 with fail
    go_wp2_with (first
      | (refine wpList_zeroM rfl rfl ?_)
      | (refine wpList_storeM rfl _ _ rfl D zeroM zeroM rfl rfl _ HD8.out ?_; intro wz hdz htz; have HDZ := Lib.hid hdz; have HTZ := Lib.hid htz; clear hdz htz))
    exact bodyPost_ret (results_cell_tmp Try.results17 rfl (load_msg HDZ.out)) rfl (HNN.out _ (below_of_touch HB8.out HTZ.out (Nat.le_of_eq HD.out.symm)))

set_option maxRecDepth 100000 in
set_option maxHeartbeats 16000000 in
theorem dec17_k4 (a : Option Addr) (n c : Nat) (b pay : List UInt8) (post : Ending → World → Prop) (w : World) (hr : Row8 w a n b) (hnc : n ≤ c) (hcm : c ≤ maxLen) (hpk : Fr.unframe b = (pay, n, 0)) (h : List Pv) (r : List UInt8) (htk : takeP [1, 1, 1, 1] pay [] = some (h, r)) (hgood : ¬ headBad h) (hkd : (h.getD 0 pv0).n = 4)
    (v : List Pv) (r2 : List UInt8) (htk2 : takeP [4] r [] = some (v, r2)) (res : Option Pm) (hres : docEnd (docKind (pm0 4 (h.getD 1 pv0).n (h.getD 2 pv0).n (h.getD 3 pv0).n) v r2) = res) (hno : res = none → DocNo w post) (hyes : ∀ y, res = some y → DocYes w post y) :
    Calls Try.prog 17 #[.slice a n c] w post := by
  have HTK := Lib.hid htk
  have HGOOD := Lib.hid hgood
  have HKD := Lib.hid hkd
  have HTK2 := Lib.hid htk2
  have HRES := Lib.hid hres
  clear htk hgood hkd htk2 hres
  obtain ⟨D, hD⟩ : ∃ D, D = w.heap.size := ⟨_, rfl⟩
  obtain ⟨X, hX⟩ : ∃ X, X = w.alloc (.cells zeroM.cs 28) := ⟨_, rfl⟩
  have hXb : Below w.heap.size w X := hX ▸ below_alloc (Below.refl _ _) _
  have hd : X.heap[D]? = some (.cells zeroM.cs 28 (0, 0)) := by rw [hX, hD]; exact heap_alloc_new w _
  have hu := refunframe_all a n c b X (hr.below hXb) hnc hcm
  have hnm : n ≤ 9223372036854775807 := by simp only [maxLen] at hcm; omega
  rw [hpk] at hu
  simp only at hu
  have HNO := Lib.hid hno
  have HYES := Lib.hid hyes
  have HU := Lib.hid hu
  have HDD := Lib.hid hd
  have HX := Lib.hid hX
  have HXB := Lib.hid hXb
  have HD := Lib.hid hD
  clear hr hnc hcm hu hd hX hXb hpk hD hno hyes
  unfold zeroM Ms.cs at HX
  simp only at HX
  go_enter Try.func17, Try.ntmps17
  go_wp2_with fail
  rw [← HX.out, ← HD.out]
  refine HU.out.mono ?_
  rintro e w2 ⟨ao, cap, rfl, hown, hb2⟩
  have hd2 := (hb2.block D (Array.getElem?_eq_some_iff.1 HDD.out).1).trans HDD.out
  have HB2 := Lib.hid (below_then HXB.out hb2)
  have HOW := Lib.hid hown
  have HD2 := Lib.hid hd2
  clear hb2 hown hd2 HU HX HXB HDD
  have hk1 : ∀ o, RowN (w2.alloc (.cells #[.int .i64 1, .int .i64 1, .int .i64 1, .int .i64 1] o)) (some ⟨w2.heap.size, 0, none⟩) 1 4 (cellsZ [1, 1, 1, 1]) := fun o => RowN.of_block (heap_alloc_new w2 _) rfl rfl
  have hr1 : ∀ o, Row8 (w2.alloc o) ao pay.length pay := fun o => (HOW.out.row.alloc o)
  have ht1 := fun o => take_any ao pay.length cap pay (some ⟨w2.heap.size, 0, none⟩) 4 4 [1, 1, 1, 1] (w2.alloc (.cells #[.int .i64 1, .int .i64 1, .int .i64 1, .int .i64 1] o)) (hr1 _) HOW.out.cap.1 HOW.out.cap.2 (hk1 o) (by decide) (fun z hz => .inl (by simpa using hz))
  have HT1 := Lib.hid ht1
  clear hk1 hr1 ht1
  go_wp2_with fail
  refine (HT1.out _).mono ?_
  rintro e w4 ⟨hb4, hn1, hy1⟩
  have HB4 := Lib.hid (below_then HB2.out (below_then (below_alloc (Below.refl _ _) _) hb4))
  have hd4 := ((below_then (below_alloc (Below.refl w2.heap.size w2) (.cells #[.int .i64 1, .int .i64 1, .int .i64 1, .int .i64 1] 3)) hb4).block D (Array.getElem?_eq_some_iff.1 HD2.out).1).trans HD2.out
  have HD4 := Lib.hid hd4
  have HB24 := Lib.hid hb4
  clear hb4 hd4 HT1
  obtain ⟨vs, av, nv, cv, ab, nb, cb, rfl, hpv, hov, hrb, hrl, hnb, hcb⟩ := hy1 _ _ HTK.out
  have hl4 := takeP_len _ _ _ _ _ HTK.out
  rw [← hpv, List.length_map] at hl4
  obtain ⟨v0, v1, v2, v3, rfl⟩ := list4 hl4
  obtain rfl : 4 = nv := hov.len
  obtain ⟨g, rfl, hgB, hgl, hc⟩ := hov.cells (by decide)
  have c0 : w4.cell? ⟨g, 1, none⟩ = some (.int .i64 v0.n) := (hc 0 v0 rfl).2.1
  have c1 : w4.cell? ⟨g, 6, none⟩ = some (.int .i64 v1.n) := (hc 1 v1 rfl).2.1
  have c2 : w4.cell? ⟨g, 11, none⟩ = some (.int .i64 v2.n) := (hc 2 v2 rfl).2.1
  have c3 : w4.cell? ⟨g, 16, none⟩ = some (.int .i64 v3.n) := (hc 3 v3 rfl).2.1
  subst hpv
  have hb : (1 ≤ v1.n ∧ v1.n ≤ 7) ∧ (1 ≤ v2.n ∧ v2.n ≤ 7) := by
    have : ¬ (v0.n < 1 ∨ 8 < v0.n ∨ v1.n < 1 ∨ 7 < v1.n ∨ v2.n < 1 ∨ 7 < v2.n) := HGOOD.out
    omega
  obtain ⟨⟨b3, b4⟩, b5, b6⟩ := hb
  obtain ⟨k0, n0, x0, s0, o0⟩ := v0
  have hkd : n0 = 4 := HKD.out
  subst hkd
  have hres2 : docEnd (docKind (pm0 4 v1.n v2.n v3.n) v r2) = res := HRES.out
  have HRES2 := Lib.hid hres2
  have HRB := Lib.hid hrb
  have hlo1 : w.heap.size ≤ w2.heap.size := HB2.out.size
  have HR4 := Lib.hid (HOW.out.row.below (below_then (below_alloc (Below.refl _ _) (.cells #[.int .i64 1, .int .i64 1, .int .i64 1, .int .i64 1] 3)) HB24.out))
  simp only at c0
  clear hn1 hy1 HGOOD HTK HKD HRES hres2 hov hrb hc hl4 hrl
  go_upto_region 7 with fail
  go_region_held3 (fun w' => w'.cell? ⟨g, 1, none⟩ = some (.int .i64 4) ∧ w'.cell? ⟨g, 6, none⟩ = some (.int .i64 v1.n) ∧ w'.cell? ⟨g, 11, none⟩ = some (.int .i64 v2.n) ∧ w'.cell? ⟨g, 16, none⟩ = some (.int .i64 v3.n)) (go_keep) (fail)
  rename_i hHeld
  clear hHeld
  obtain ⟨M, hM⟩ : ∃ M, M = w4.heap.size := ⟨_, rfl⟩
  obtain ⟨w5, hw5⟩ : ∃ w5, w5 = (w4.alloc (.cells (headM 4 v1.n v2.n v3.n).cs 28)).drew := ⟨_, rfl⟩
  have hb5 : Below w4.heap.size w4 w5 := hw5 ▸ (below_alloc (Below.refl _ _) _).drew
  have hm5 : w5.heap[M]? = some (.cells (headM 4 v1.n v2.n v3.n).cs 28 (0, 0)) := by rw [hw5, hM]; exact heap_alloc_new w4 _
  unfold headM Ms.cs at hw5
  simp only at hw5
  rw [← hw5, ← hM]
  have HM := Lib.hid hM
  have HB45 := Lib.hid hb5
  have HM5 := Lib.hid hm5
  have hDM : D < M := by have := (Array.getElem?_eq_some_iff.1 HD4.out).1; omega
  have hwM : w.heap.size ≤ M := by have := HB4.out.size; omega
  obtain ⟨m0, -⟩ := ms_cells hm5
  simp only [headM] at m0
  clear hw5 hb5 hm5 hM c0 c1 c2 c3 hgB hgl
  go_wp2_with fail
  refine (kinds_any 4 w5 (by decide)).mono ?_
  rintro e w6 ⟨ak, nk, ck, rfl, hks, hn6, hb6⟩
  have hks' : RowN w6 ak 1 nk (cellsZ [4]) := hks
  have HB46 := Lib.hid (below_then HB45.out hb6)
  have ht2 := take_any ab nb cb r ak nk ck [4] w6 (HRB.out _ (HR4.out.below HB46.out)) hnb hcb hks' (by omega) (fun z hz => by simp at hz; simp only [goodK]; omega)
  have HT2 := Lib.hid ht2
  have HM6 := Lib.hid ((hb6.block M (Array.getElem?_eq_some_iff.1 HM5.out).1).trans HM5.out)
  have hM6 : M < w6.heap.size := (Array.getElem?_eq_some_iff.1 HM6.out).1
  clear hks hks' hb6 ht2 m0 hn6 HM5
  go_wp2_with fail
  refine HT2.out.mono ?_
  rintro e w7 ⟨hb7, -, hy2⟩
  obtain ⟨us, au, nu, cu, ab2, nb2, cb2, rfl, hpv2, hov2, hrb2, hrl2, hnb2, hcb2⟩ := hy2 _ _ HTK2.out
  have HB47 := Lib.hid (below_then HB46.out hb7)
  have hm7 := (hb7.block M (Array.getElem?_eq_some_iff.1 HM6.out).1).trans HM6.out
  have hd7 := (HB47.out.block D (Array.getElem?_eq_some_iff.1 HD4.out).1).trans HD4.out
  have hb07 : Below w.heap.size w w7 := below_then HB4.out HB47.out
  have hl2 := takeP_len _ _ _ _ _ HTK2.out
  rw [← hpv2, List.length_map] at hl2
  obtain ⟨u0, rfl⟩ := list1 hl2
  obtain rfl : 1 = nu := hov2.len
  obtain ⟨g2, rfl, hg2B, hg2l, hc2⟩ := hov2.cells (by decide)
  have d0 : w7.cell? ⟨g2, 4, none⟩ = some (.bool u0.on) := (hc2 0 u0 rfl).2.2.2.2
  have hne : g2 ≠ M := by omega
  have hne' : M ≠ g2 := by omega
  subst hpv2
  obtain ⟨m0, m1, m2, m3, m4, m5, m6, m7, m8, m9, m10, m11, m12, m13⟩ := ms_cells hm7
  simp only [headM] at m0 m1 m2 m3 m4 m5 m6 m7 m8 m9 m10 m11 m12 m13
  clear m1 m2 m3
  have HB7 := Lib.hid hb07
  have HM7 := Lib.hid hm7
  have HD7 := Lib.hid hd7
  have HOV2 := Lib.hid hov2
  have HRB2 := Lib.hid hrb2
  have hM7 : M < w7.heap.size := (Array.getElem?_eq_some_iff.1 HM7.out).1
  have f7 : w7.frozen? ⟨M, 7, none⟩ = false := by simp [World.frozen?, HM7.out]
  clear hb7 hy2 hm7 hd7 hb07 hl2 hov2 hrb2 hc2 hg2B HT2 HTK2 HM6 HB46
  go_upto_region 50 with fail
  obtain ⟨w8, hw8⟩ : ∃ w8, w8 = (w7.setCell ⟨M, 7, none⟩ (.bool u0.on)) := ⟨_, rfl⟩
  obtain ⟨m, hme⟩ : ∃ m : Ms, m = bareM 4 v1.n v2.n v3.n 0 0 0 u0.on 0 false := ⟨_, rfl⟩
  have hm8 : w8.heap[M]? = some (.cells m.cs 28 (0, 0)) := by rw [hme, hw8]; exact (set_block (i := 7) HM7.out _)
  have ht8 : Touch [M] w7 w8 := by rw [hw8]; exact (touch_set (Touch.refl _ _) _ _ _ (by simp))
  have hmap : MAp w8 (M + 1) m := by rw [hme]; exact bareM_ap _ _ _ _ _ _ _ _ _ _ _ _
  have hr8 : docEnd (some (m.plain, r2)) = res := by rw [hme]; exact HRES2.out
  rw [← hw8]
  have HM8 := Lib.hid hm8
  have HMAP := Lib.hid hmap
  have HRES8 := Lib.hid hr8
  have HD8 := Lib.hid ((ht8.block D (Array.getElem?_eq_some_iff.1 HD7.out).1 (by simp; omega)).trans HD7.out)
  have HB8 := Lib.hid (below_of_touch HB7.out ht8 hwM)
  clear hw8 hme hm8 ht8 hmap hr8 HM7 HD7 HRES2 m0 m4 m5 m6 m7 m8 m9 m10 m11 m12 m13 f7 d0
  by_cases h0 : nb2 = 0
  · subst h0
    have hr2 : r2 = [] := List.eq_nil_of_length_eq_zero hrl2
    subst hr2
    have hri := rright17_any m w8 HMAP.out.ok HMAP.out.clen
    rw [rightM_plain HMAP.out.ok] at hri
    have hre : (if rightP m.plain = true then some m.plain else none) = res := HRES8.out
    cases hrp : rightP m.plain with
    | false =>
      rw [hrp] at hri hre
      have HNN := Lib.hid (HNO.out hre.symm)
      have HRI := Lib.hid hri
      clear hri hre hrp hrl2
      go_wp2_with (first
        | (refine wpList_loadM_want rfl _ rfl M m _ rfl HM8.out ?_))
      refine HRI.out.mono ?_
      rintro e w9 ⟨rfl, hb9⟩
      have HD9 := Lib.hid ((hb9.block D (Array.getElem?_eq_some_iff.1 HD8.out).1).trans HD8.out)
      have HB9 := Lib.hid (below_then HB8.out hb9)
      clear hb9
      go_upto_region 51 with fail
      go_wp2_with (first
        | (refine wpList_zeroM rfl rfl ?_)
        | (refine wpList_storeM rfl _ _ rfl D zeroM zeroM rfl rfl _ HD9.out ?_; intro wz hdz htz; have HDZ := Lib.hid hdz; have HTZ := Lib.hid htz; clear hdz htz))
      exact bodyPost_ret (results_cell_tmp Try.results17 rfl (load_msg HDZ.out)) rfl (HNN.out _ (below_of_touch HB9.out HTZ.out (Nat.le_of_eq HD.out.symm)))
    | true =>
      rw [hrp] at hri hre
      have HYY := Lib.hid (HYES.out _ hre.symm)
      have HRI := Lib.hid hri
      clear hri hre hrp hrl2
      go_wp2_with (first
        | (refine wpList_loadM_want rfl _ rfl M m _ rfl HM8.out ?_))
      refine HRI.out.mono ?_
      rintro e w9 ⟨rfl, hb9⟩
      have HD9 := Lib.hid ((hb9.block D (Array.getElem?_eq_some_iff.1 HD8.out).1).trans HD8.out)
      have HM9 := Lib.hid ((hb9.block M (Array.getElem?_eq_some_iff.1 HM8.out).1).trans HM8.out)
      have HB9 := Lib.hid (below_then HB8.out hb9)
      have HMAP9 := Lib.hid (HMAP.out.below hb9)
      clear hb9
      go_upto_region 52 with fail
      go_wp2_with (first
        | (refine wpList_loadM rfl _ rfl M m _ rfl HM9.out ?_)
        | (refine wpList_storeM rfl _ _ rfl D m zeroM rfl rfl _ HD9.out ?_; intro wz hdz htz; have HDZ := Lib.hid hdz; have HTZ := Lib.hid htz; clear hdz htz))
      exact bodyPost_ret (results_cell_tmp Try.results17 rfl (load_msg HDZ.out)) rfl (HYY.out m _ rfl (HMAP9.out.keep (w' := wz) fun g hg hl => HTZ.out.block g hl (by simp; omega)).ok HMAP9.out.clen (below_of_touch HB9.out HTZ.out (Nat.le_of_eq HD.out.symm)))
  · have hi : (0 : Int) < (nb2 : Int) := by omega
    have hre : res = none := by
      rw [← HRES8.out]
      cases r2 with
      | nil => simp at hrl2; omega
      | cons x y => rfl
    have HNN := Lib.hid (HNO.out hre)
    clear h0 hre hrl2
    go_upto_region 51 with fail
    go_wp2_with (first
      | (refine wpList_zeroM rfl rfl ?_)
      | (refine wpList_storeM rfl _ _ rfl D zeroM zeroM rfl rfl _ HD8.out ?_; intro wz hdz htz; have HDZ := Lib.hid hdz; have HTZ := Lib.hid htz; clear hdz htz))
    exact bodyPost_ret (results_cell_tmp Try.results17 rfl (load_msg HDZ.out)) rfl (HNN.out _ (below_of_touch HB8.out HTZ.out (Nat.le_of_eq HD.out.symm)))

set_option maxRecDepth 100000 in
set_option maxHeartbeats 16000000 in
theorem dec17_k6 (a : Option Addr) (n c : Nat) (b pay : List UInt8) (post : Ending → World → Prop) (w : World) (hr : Row8 w a n b) (hnc : n ≤ c) (hcm : c ≤ maxLen) (hpk : Fr.unframe b = (pay, n, 0)) (h : List Pv) (r : List UInt8) (htk : takeP [1, 1, 1, 1] pay [] = some (h, r)) (hgood : ¬ headBad h) (hkd : (h.getD 0 pv0).n = 6)
    (v : List Pv) (r2 : List UInt8) (htk2 : takeP [1, 4] r [] = some (v, r2)) (res : Option Pm) (hres : docEnd (docKind (pm0 6 (h.getD 1 pv0).n (h.getD 2 pv0).n (h.getD 3 pv0).n) v r2) = res) (hno : res = none → DocNo w post) (hyes : ∀ y, res = some y → DocYes w post y) :
    Calls Try.prog 17 #[.slice a n c] w post := by
  have HTK := Lib.hid htk
  have HGOOD := Lib.hid hgood
  have HKD := Lib.hid hkd
  have HTK2 := Lib.hid htk2
  have HRES := Lib.hid hres
  clear htk hgood hkd htk2 hres
  obtain ⟨D, hD⟩ : ∃ D, D = w.heap.size := ⟨_, rfl⟩
  obtain ⟨X, hX⟩ : ∃ X, X = w.alloc (.cells zeroM.cs 28) := ⟨_, rfl⟩
  have hXb : Below w.heap.size w X := hX ▸ below_alloc (Below.refl _ _) _
  have hd : X.heap[D]? = some (.cells zeroM.cs 28 (0, 0)) := by rw [hX, hD]; exact heap_alloc_new w _
  have hu := refunframe_all a n c b X (hr.below hXb) hnc hcm
  have hnm : n ≤ 9223372036854775807 := by simp only [maxLen] at hcm; omega
  rw [hpk] at hu
  simp only at hu
  have HNO := Lib.hid hno
  have HYES := Lib.hid hyes
  have HU := Lib.hid hu
  have HDD := Lib.hid hd
  have HX := Lib.hid hX
  have HXB := Lib.hid hXb
  have HD := Lib.hid hD
  clear hr hnc hcm hu hd hX hXb hpk hD hno hyes
  unfold zeroM Ms.cs at HX
  simp only at HX
  go_enter Try.func17, Try.ntmps17
  go_wp2_with fail
  rw [← HX.out, ← HD.out]
  refine HU.out.mono ?_
  rintro e w2 ⟨ao, cap, rfl, hown, hb2⟩
  have hd2 := (hb2.block D (Array.getElem?_eq_some_iff.1 HDD.out).1).trans HDD.out
  have HB2 := Lib.hid (below_then HXB.out hb2)
  have HOW := Lib.hid hown
  have HD2 := Lib.hid hd2
  clear hb2 hown hd2 HU HX HXB HDD
  have hk1 : ∀ o, RowN (w2.alloc (.cells #[.int .i64 1, .int .i64 1, .int .i64 1, .int .i64 1] o)) (some ⟨w2.heap.size, 0, none⟩) 1 4 (cellsZ [1, 1, 1, 1]) := fun o => RowN.of_block (heap_alloc_new w2 _) rfl rfl
  have hr1 : ∀ o, Row8 (w2.alloc o) ao pay.length pay := fun o => (HOW.out.row.alloc o)
  have ht1 := fun o => take_any ao pay.length cap pay (some ⟨w2.heap.size, 0, none⟩) 4 4 [1, 1, 1, 1] (w2.alloc (.cells #[.int .i64 1, .int .i64 1, .int .i64 1, .int .i64 1] o)) (hr1 _) HOW.out.cap.1 HOW.out.cap.2 (hk1 o) (by decide) (fun z hz => .inl (by simpa using hz))
  have HT1 := Lib.hid ht1
  clear hk1 hr1 ht1
  go_wp2_with fail
  refine (HT1.out _).mono ?_
  rintro e w4 ⟨hb4, hn1, hy1⟩
  have HB4 := Lib.hid (below_then HB2.out (below_then (below_alloc (Below.refl _ _) _) hb4))
  have hd4 := ((below_then (below_alloc (Below.refl w2.heap.size w2) (.cells #[.int .i64 1, .int .i64 1, .int .i64 1, .int .i64 1] 3)) hb4).block D (Array.getElem?_eq_some_iff.1 HD2.out).1).trans HD2.out
  have HD4 := Lib.hid hd4
  have HB24 := Lib.hid hb4
  clear hb4 hd4 HT1
  obtain ⟨vs, av, nv, cv, ab, nb, cb, rfl, hpv, hov, hrb, hrl, hnb, hcb⟩ := hy1 _ _ HTK.out
  have hl4 := takeP_len _ _ _ _ _ HTK.out
  rw [← hpv, List.length_map] at hl4
  obtain ⟨v0, v1, v2, v3, rfl⟩ := list4 hl4
  obtain rfl : 4 = nv := hov.len
  obtain ⟨g, rfl, hgB, hgl, hc⟩ := hov.cells (by decide)
  have c0 : w4.cell? ⟨g, 1, none⟩ = some (.int .i64 v0.n) := (hc 0 v0 rfl).2.1
  have c1 : w4.cell? ⟨g, 6, none⟩ = some (.int .i64 v1.n) := (hc 1 v1 rfl).2.1
  have c2 : w4.cell? ⟨g, 11, none⟩ = some (.int .i64 v2.n) := (hc 2 v2 rfl).2.1
  have c3 : w4.cell? ⟨g, 16, none⟩ = some (.int .i64 v3.n) := (hc 3 v3 rfl).2.1
  subst hpv
  have hb : (1 ≤ v1.n ∧ v1.n ≤ 7) ∧ (1 ≤ v2.n ∧ v2.n ≤ 7) := by
    have : ¬ (v0.n < 1 ∨ 8 < v0.n ∨ v1.n < 1 ∨ 7 < v1.n ∨ v2.n < 1 ∨ 7 < v2.n) := HGOOD.out
    omega
  obtain ⟨⟨b3, b4⟩, b5, b6⟩ := hb
  obtain ⟨k0, n0, x0, s0, o0⟩ := v0
  have hkd : n0 = 6 := HKD.out
  subst hkd
  have hres2 : docEnd (docKind (pm0 6 v1.n v2.n v3.n) v r2) = res := HRES.out
  have HRES2 := Lib.hid hres2
  have HRB := Lib.hid hrb
  have hlo1 : w.heap.size ≤ w2.heap.size := HB2.out.size
  have HR4 := Lib.hid (HOW.out.row.below (below_then (below_alloc (Below.refl _ _) (.cells #[.int .i64 1, .int .i64 1, .int .i64 1, .int .i64 1] 3)) HB24.out))
  simp only at c0
  clear hn1 hy1 HGOOD HTK HKD HRES hres2 hov hrb hc hl4 hrl
  go_upto_region 7 with fail
  go_region_held3 (fun w' => w'.cell? ⟨g, 1, none⟩ = some (.int .i64 6) ∧ w'.cell? ⟨g, 6, none⟩ = some (.int .i64 v1.n) ∧ w'.cell? ⟨g, 11, none⟩ = some (.int .i64 v2.n) ∧ w'.cell? ⟨g, 16, none⟩ = some (.int .i64 v3.n)) (go_keep) (fail)
  rename_i hHeld
  clear hHeld
  obtain ⟨M, hM⟩ : ∃ M, M = w4.heap.size := ⟨_, rfl⟩
  obtain ⟨w5, hw5⟩ : ∃ w5, w5 = (w4.alloc (.cells (headM 6 v1.n v2.n v3.n).cs 28)).drew := ⟨_, rfl⟩
  have hb5 : Below w4.heap.size w4 w5 := hw5 ▸ (below_alloc (Below.refl _ _) _).drew
  have hm5 : w5.heap[M]? = some (.cells (headM 6 v1.n v2.n v3.n).cs 28 (0, 0)) := by rw [hw5, hM]; exact heap_alloc_new w4 _
  unfold headM Ms.cs at hw5
  simp only at hw5
  rw [← hw5, ← hM]
  have HM := Lib.hid hM
  have HB45 := Lib.hid hb5
  have HM5 := Lib.hid hm5
  have hDM : D < M := by have := (Array.getElem?_eq_some_iff.1 HD4.out).1; omega
  have hwM : w.heap.size ≤ M := by have := HB4.out.size; omega
  obtain ⟨m0, -⟩ := ms_cells hm5
  simp only [headM] at m0
  clear hw5 hb5 hm5 hM c0 c1 c2 c3 hgB hgl
  go_wp2_with fail
  refine (kinds_any 6 w5 (by decide)).mono ?_
  rintro e w6 ⟨ak, nk, ck, rfl, hks, hn6, hb6⟩
  have hks' : RowN w6 ak 1 nk (cellsZ [1, 4]) := hks
  have HB46 := Lib.hid (below_then HB45.out hb6)
  have ht2 := take_any ab nb cb r ak nk ck [1, 4] w6 (HRB.out _ (HR4.out.below HB46.out)) hnb hcb hks' (by omega) (fun z hz => by simp at hz; simp only [goodK]; omega)
  have HT2 := Lib.hid ht2
  have HM6 := Lib.hid ((hb6.block M (Array.getElem?_eq_some_iff.1 HM5.out).1).trans HM5.out)
  have hM6 : M < w6.heap.size := (Array.getElem?_eq_some_iff.1 HM6.out).1
  clear hks hks' hb6 ht2 m0 hn6 HM5
  go_wp2_with fail
  refine HT2.out.mono ?_
  rintro e w7 ⟨hb7, -, hy2⟩
  obtain ⟨us, au, nu, cu, ab2, nb2, cb2, rfl, hpv2, hov2, hrb2, hrl2, hnb2, hcb2⟩ := hy2 _ _ HTK2.out
  have HB47 := Lib.hid (below_then HB46.out hb7)
  have hm7 := (hb7.block M (Array.getElem?_eq_some_iff.1 HM6.out).1).trans HM6.out
  have hd7 := (HB47.out.block D (Array.getElem?_eq_some_iff.1 HD4.out).1).trans HD4.out
  have hb07 : Below w.heap.size w w7 := below_then HB4.out HB47.out
  have hl2 := takeP_len _ _ _ _ _ HTK2.out
  rw [← hpv2, List.length_map] at hl2
  obtain ⟨u0, u1, rfl⟩ := list2 hl2
  obtain rfl : 2 = nu := hov2.len
  obtain ⟨g2, rfl, hg2B, hg2l, hc2⟩ := hov2.cells (by decide)
  have d0 : w7.cell? ⟨g2, 1, none⟩ = some (.int .i64 u0.n) := (hc2 0 u0 rfl).2.1
  have d1 : w7.cell? ⟨g2, 9, none⟩ = some (.bool u1.on) := (hc2 1 u1 rfl).2.2.2.2
  have hne : g2 ≠ M := by omega
  have hne' : M ≠ g2 := by omega
  subst hpv2
  obtain ⟨m0, m1, m2, m3, m4, m5, m6, m7, m8, m9, m10, m11, m12, m13⟩ := ms_cells hm7
  simp only [headM] at m0 m1 m2 m3 m4 m5 m6 m7 m8 m9 m10 m11 m12 m13
  clear m1 m2 m3
  have HB7 := Lib.hid hb07
  have HM7 := Lib.hid hm7
  have HD7 := Lib.hid hd7
  have HOV2 := Lib.hid hov2
  have HRB2 := Lib.hid hrb2
  have hM7 : M < w7.heap.size := (Array.getElem?_eq_some_iff.1 HM7.out).1
  have f4 : w7.frozen? ⟨M, 4, none⟩ = false := by simp [World.frozen?, HM7.out]
  have f7 : w7.frozen? ⟨M, 7, none⟩ = false := by simp [World.frozen?, HM7.out]
  clear hb7 hy2 hm7 hd7 hb07 hl2 hov2 hrb2 hc2 hg2B HT2 HTK2 HM6 HB46
  go_upto_region 50 with fail
  obtain ⟨w8, hw8⟩ : ∃ w8, w8 = ((w7.setCell ⟨M, 4, none⟩ (.int .i64 u0.n)).setCell ⟨M, 7, none⟩ (.bool u1.on)) := ⟨_, rfl⟩
  obtain ⟨m, hme⟩ : ∃ m : Ms, m = bareM 6 v1.n v2.n v3.n u0.n 0 0 u1.on 0 false := ⟨_, rfl⟩
  have hm8 : w8.heap[M]? = some (.cells m.cs 28 (0, 0)) := by rw [hme, hw8]; exact (set_block (i := 7) (set_block (i := 4) HM7.out _) _)
  have ht8 : Touch [M] w7 w8 := by rw [hw8]; exact (touch_set ((touch_set (Touch.refl _ _) _ _ _ (by simp))) _ _ _ (by simp))
  have hmap : MAp w8 (M + 1) m := by rw [hme]; exact bareM_ap _ _ _ _ _ _ _ _ _ _ _ _
  have hr8 : docEnd (some (m.plain, r2)) = res := by rw [hme]; exact HRES2.out
  rw [← hw8]
  have HM8 := Lib.hid hm8
  have HMAP := Lib.hid hmap
  have HRES8 := Lib.hid hr8
  have HD8 := Lib.hid ((ht8.block D (Array.getElem?_eq_some_iff.1 HD7.out).1 (by simp; omega)).trans HD7.out)
  have HB8 := Lib.hid (below_of_touch HB7.out ht8 hwM)
  clear hw8 hme hm8 ht8 hmap hr8 HM7 HD7 HRES2 m0 m4 m5 m6 m7 m8 m9 m10 m11 m12 m13 f4 f7 d0 d1
  by_cases h0 : nb2 = 0
  · subst h0
    have hr2 : r2 = [] := List.eq_nil_of_length_eq_zero hrl2
    subst hr2
    have hri := rright17_any m w8 HMAP.out.ok HMAP.out.clen
    rw [rightM_plain HMAP.out.ok] at hri
    have hre : (if rightP m.plain = true then some m.plain else none) = res := HRES8.out
    cases hrp : rightP m.plain with
    | false =>
      rw [hrp] at hri hre
      have HNN := Lib.hid (HNO.out hre.symm)
      have HRI := Lib.hid hri
      clear hri hre hrp hrl2
      go_wp2_with (first
        | (refine wpList_loadM_want rfl _ rfl M m _ rfl HM8.out ?_))
      refine HRI.out.mono ?_
      rintro e w9 ⟨rfl, hb9⟩
      have HD9 := Lib.hid ((hb9.block D (Array.getElem?_eq_some_iff.1 HD8.out).1).trans HD8.out)
      have HB9 := Lib.hid (below_then HB8.out hb9)
      clear hb9
      go_upto_region 51 with fail
      go_wp2_with (first
        | (refine wpList_zeroM rfl rfl ?_)
        | (refine wpList_storeM rfl _ _ rfl D zeroM zeroM rfl rfl _ HD9.out ?_; intro wz hdz htz; have HDZ := Lib.hid hdz; have HTZ := Lib.hid htz; clear hdz htz))
      exact bodyPost_ret (results_cell_tmp Try.results17 rfl (load_msg HDZ.out)) rfl (HNN.out _ (below_of_touch HB9.out HTZ.out (Nat.le_of_eq HD.out.symm)))
    | true =>
      rw [hrp] at hri hre
      have HYY := Lib.hid (HYES.out _ hre.symm)
      have HRI := Lib.hid hri
      clear hri hre hrp hrl2
      go_wp2_with (first
        | (refine wpList_loadM_want rfl _ rfl M m _ rfl HM8.out ?_))
      refine HRI.out.mono ?_
      rintro e w9 ⟨rfl, hb9⟩
      have HD9 := Lib.hid ((hb9.block D (Array.getElem?_eq_some_iff.1 HD8.out).1).trans HD8.out)
      have HM9 := Lib.hid ((hb9.block M (Array.getElem?_eq_some_iff.1 HM8.out).1).trans HM8.out)
      have HB9 := Lib.hid (below_then HB8.out hb9)
      have HMAP9 := Lib.hid (HMAP.out.below hb9)
      clear hb9
      go_upto_region 52 with fail
      go_wp2_with (first
        | (refine wpList_loadM rfl _ rfl M m _ rfl HM9.out ?_)
        | (refine wpList_storeM rfl _ _ rfl D m zeroM rfl rfl _ HD9.out ?_; intro wz hdz htz; have HDZ := Lib.hid hdz; have HTZ := Lib.hid htz; clear hdz htz))
      exact bodyPost_ret (results_cell_tmp Try.results17 rfl (load_msg HDZ.out)) rfl (HYY.out m _ rfl (HMAP9.out.keep (w' := wz) fun g hg hl => HTZ.out.block g hl (by simp; omega)).ok HMAP9.out.clen (below_of_touch HB9.out HTZ.out (Nat.le_of_eq HD.out.symm)))
  · have hi : (0 : Int) < (nb2 : Int) := by omega
    have hre : res = none := by
      rw [← HRES8.out]
      cases r2 with
      | nil => simp at hrl2; omega
      | cons x y => rfl
    have HNN := Lib.hid (HNO.out hre)
    clear h0 hre hrl2
    go_upto_region 51 with fail
    go_wp2_with (first
      | (refine wpList_zeroM rfl rfl ?_)
      | (refine wpList_storeM rfl _ _ rfl D zeroM zeroM rfl rfl _ HD8.out ?_; intro wz hdz htz; have HDZ := Lib.hid hdz; have HTZ := Lib.hid htz; clear hdz htz))
    exact bodyPost_ret (results_cell_tmp Try.results17 rfl (load_msg HDZ.out)) rfl (HNN.out _ (below_of_touch HB8.out HTZ.out (Nat.le_of_eq HD.out.symm)))

set_option maxRecDepth 100000 in
set_option maxHeartbeats 16000000 in
theorem dec17_k8 (a : Option Addr) (n c : Nat) (b pay : List UInt8) (post : Ending → World → Prop) (w : World) (hr : Row8 w a n b) (hnc : n ≤ c) (hcm : c ≤ maxLen) (hpk : Fr.unframe b = (pay, n, 0)) (h : List Pv) (r : List UInt8) (htk : takeP [1, 1, 1, 1] pay [] = some (h, r)) (hgood : ¬ headBad h) (hkd : (h.getD 0 pv0).n = 8)
    (v : List Pv) (r2 : List UInt8) (htk2 : takeP [1, 1, 4] r [] = some (v, r2)) (res : Option Pm) (hres : docEnd (docKind (pm0 8 (h.getD 1 pv0).n (h.getD 2 pv0).n (h.getD 3 pv0).n) v r2) = res) (hno : res = none → DocNo w post) (hyes : ∀ y, res = some y → DocYes w post y) :
    Calls Try.prog 17 #[.slice a n c] w post := by
  have HTK := Lib.hid htk
  have HGOOD := Lib.hid hgood
  have HKD := Lib.hid hkd
  have HTK2 := Lib.hid htk2
  have HRES := Lib.hid hres
  clear htk hgood hkd htk2 hres
  obtain ⟨D, hD⟩ : ∃ D, D = w.heap.size := ⟨_, rfl⟩
  obtain ⟨X, hX⟩ : ∃ X, X = w.alloc (.cells zeroM.cs 28) := ⟨_, rfl⟩
  have hXb : Below w.heap.size w X := hX ▸ below_alloc (Below.refl _ _) _
  have hd : X.heap[D]? = some (.cells zeroM.cs 28 (0, 0)) := by rw [hX, hD]; exact heap_alloc_new w _
  have hu := refunframe_all a n c b X (hr.below hXb) hnc hcm
  have hnm : n ≤ 9223372036854775807 := by simp only [maxLen] at hcm; omega
  rw [hpk] at hu
  simp only at hu
  have HNO := Lib.hid hno
  have HYES := Lib.hid hyes
  have HU := Lib.hid hu
  have HDD := Lib.hid hd
  have HX := Lib.hid hX
  have HXB := Lib.hid hXb
  have HD := Lib.hid hD
  clear hr hnc hcm hu hd hX hXb hpk hD hno hyes
  unfold zeroM Ms.cs at HX
  simp only at HX
  go_enter Try.func17, Try.ntmps17
  go_wp2_with fail
  rw [← HX.out, ← HD.out]
  refine HU.out.mono ?_
  rintro e w2 ⟨ao, cap, rfl, hown, hb2⟩
  have hd2 := (hb2.block D (Array.getElem?_eq_some_iff.1 HDD.out).1).trans HDD.out
  have HB2 := Lib.hid (below_then HXB.out hb2)
  have HOW := Lib.hid hown
  have HD2 := Lib.hid hd2
  clear hb2 hown hd2 HU HX HXB HDD
  have hk1 : ∀ o, RowN (w2.alloc (.cells #[.int .i64 1, .int .i64 1, .int .i64 1, .int .i64 1] o)) (some ⟨w2.heap.size, 0, none⟩) 1 4 (cellsZ [1, 1, 1, 1]) := fun o => RowN.of_block (heap_alloc_new w2 _) rfl rfl
  have hr1 : ∀ o, Row8 (w2.alloc o) ao pay.length pay := fun o => (HOW.out.row.alloc o)
  have ht1 := fun o => take_any ao pay.length cap pay (some ⟨w2.heap.size, 0, none⟩) 4 4 [1, 1, 1, 1] (w2.alloc (.cells #[.int .i64 1, .int .i64 1, .int .i64 1, .int .i64 1] o)) (hr1 _) HOW.out.cap.1 HOW.out.cap.2 (hk1 o) (by decide) (fun z hz => .inl (by simpa using hz))
  have HT1 := Lib.hid ht1
  clear hk1 hr1 ht1
  go_wp2_with fail
  refine (HT1.out _).mono ?_
  rintro e w4 ⟨hb4, hn1, hy1⟩
  have HB4 := Lib.hid (below_then HB2.out (below_then (below_alloc (Below.refl _ _) _) hb4))
  have hd4 := ((below_then (below_alloc (Below.refl w2.heap.size w2) (.cells #[.int .i64 1, .int .i64 1, .int .i64 1, .int .i64 1] 3)) hb4).block D (Array.getElem?_eq_some_iff.1 HD2.out).1).trans HD2.out
  have HD4 := Lib.hid hd4
  have HB24 := Lib.hid hb4
  clear hb4 hd4 HT1
  obtain ⟨vs, av, nv, cv, ab, nb, cb, rfl, hpv, hov, hrb, hrl, hnb, hcb⟩ := hy1 _ _ HTK.out
  have hl4 := takeP_len _ _ _ _ _ HTK.out
  rw [← hpv, List.length_map] at hl4
  obtain ⟨v0, v1, v2, v3, rfl⟩ := list4 hl4
  obtain rfl : 4 = nv := hov.len
  obtain ⟨g, rfl, hgB, hgl, hc⟩ := hov.cells (by decide)
  have c0 : w4.cell? ⟨g, 1, none⟩ = some (.int .i64 v0.n) := (hc 0 v0 rfl).2.1
  have c1 : w4.cell? ⟨g, 6, none⟩ = some (.int .i64 v1.n) := (hc 1 v1 rfl).2.1
  have c2 : w4.cell? ⟨g, 11, none⟩ = some (.int .i64 v2.n) := (hc 2 v2 rfl).2.1
  have c3 : w4.cell? ⟨g, 16, none⟩ = some (.int .i64 v3.n) := (hc 3 v3 rfl).2.1
  subst hpv
  have hb : (1 ≤ v1.n ∧ v1.n ≤ 7) ∧ (1 ≤ v2.n ∧ v2.n ≤ 7) := by
    have : ¬ (v0.n < 1 ∨ 8 < v0.n ∨ v1.n < 1 ∨ 7 < v1.n ∨ v2.n < 1 ∨ 7 < v2.n) := HGOOD.out
    omega
  obtain ⟨⟨b3, b4⟩, b5, b6⟩ := hb
  obtain ⟨k0, n0, x0, s0, o0⟩ := v0
  have hkd : n0 = 8 := HKD.out
  subst hkd
  have hres2 : docEnd (docKind (pm0 8 v1.n v2.n v3.n) v r2) = res := HRES.out
  have HRES2 := Lib.hid hres2
  have HRB := Lib.hid hrb
  have hlo1 : w.heap.size ≤ w2.heap.size := HB2.out.size
  have HR4 := Lib.hid (HOW.out.row.below (below_then (below_alloc (Below.refl _ _) (.cells #[.int .i64 1, .int .i64 1, .int .i64 1, .int .i64 1] 3)) HB24.out))
  simp only at c0
  clear hn1 hy1 HGOOD HTK HKD HRES hres2 hov hrb hc hl4 hrl
  go_upto_region 7 with fail
  go_region_held3 (fun w' => w'.cell? ⟨g, 1, none⟩ = some (.int .i64 8) ∧ w'.cell? ⟨g, 6, none⟩ = some (.int .i64 v1.n) ∧ w'.cell? ⟨g, 11, none⟩ = some (.int .i64 v2.n) ∧ w'.cell? ⟨g, 16, none⟩ = some (.int .i64 v3.n)) (go_keep) (fail)
  rename_i hHeld
  clear hHeld
  obtain ⟨M, hM⟩ : ∃ M, M = w4.heap.size := ⟨_, rfl⟩
  obtain ⟨w5, hw5⟩ : ∃ w5, w5 = (w4.alloc (.cells (headM 8 v1.n v2.n v3.n).cs 28)).drew := ⟨_, rfl⟩
  have hb5 : Below w4.heap.size w4 w5 := hw5 ▸ (below_alloc (Below.refl _ _) _).drew
  have hm5 : w5.heap[M]? = some (.cells (headM 8 v1.n v2.n v3.n).cs 28 (0, 0)) := by rw [hw5, hM]; exact heap_alloc_new w4 _
  unfold headM Ms.cs at hw5
  simp only at hw5
  rw [← hw5, ← hM]
  have HM := Lib.hid hM
  have HB45 := Lib.hid hb5
  have HM5 := Lib.hid hm5
  have hDM : D < M := by have := (Array.getElem?_eq_some_iff.1 HD4.out).1; omega
  have hwM : w.heap.size ≤ M := by have := HB4.out.size; omega
  obtain ⟨m0, -⟩ := ms_cells hm5
  simp only [headM] at m0
  clear hw5 hb5 hm5 hM c0 c1 c2 c3 hgB hgl
  go_wp2_with fail
  refine (kinds_any 8 w5 (by decide)).mono ?_
  rintro e w6 ⟨ak, nk, ck, rfl, hks, hn6, hb6⟩
  have hks' : RowN w6 ak 1 nk (cellsZ [1, 1, 4]) := hks
  have HB46 := Lib.hid (below_then HB45.out hb6)
  have ht2 := take_any ab nb cb r ak nk ck [1, 1, 4] w6 (HRB.out _ (HR4.out.below HB46.out)) hnb hcb hks' (by omega) (fun z hz => by simp at hz; simp only [goodK]; omega)
  have HT2 := Lib.hid ht2
  have HM6 := Lib.hid ((hb6.block M (Array.getElem?_eq_some_iff.1 HM5.out).1).trans HM5.out)
  have hM6 : M < w6.heap.size := (Array.getElem?_eq_some_iff.1 HM6.out).1
  clear hks hks' hb6 ht2 m0 hn6 HM5
  go_wp2_with fail
  refine HT2.out.mono ?_
  rintro e w7 ⟨hb7, -, hy2⟩
  obtain ⟨us, au, nu, cu, ab2, nb2, cb2, rfl, hpv2, hov2, hrb2, hrl2, hnb2, hcb2⟩ := hy2 _ _ HTK2.out
  have HB47 := Lib.hid (below_then HB46.out hb7)
  have hm7 := (hb7.block M (Array.getElem?_eq_some_iff.1 HM6.out).1).trans HM6.out
  have hd7 := (HB47.out.block D (Array.getElem?_eq_some_iff.1 HD4.out).1).trans HD4.out
  have hb07 : Below w.heap.size w w7 := below_then HB4.out HB47.out
  have hl2 := takeP_len _ _ _ _ _ HTK2.out
  rw [← hpv2, List.length_map] at hl2
  obtain ⟨u0, u1, u2, rfl⟩ := list3 hl2
  obtain rfl : 3 = nu := hov2.len
  obtain ⟨g2, rfl, hg2B, hg2l, hc2⟩ := hov2.cells (by decide)
  have d0 : w7.cell? ⟨g2, 1, none⟩ = some (.int .i64 u0.n) := (hc2 0 u0 rfl).2.1
  have d1 : w7.cell? ⟨g2, 6, none⟩ = some (.int .i64 u1.n) := (hc2 1 u1 rfl).2.1
  have d2 : w7.cell? ⟨g2, 14, none⟩ = some (.bool u2.on) := (hc2 2 u2 rfl).2.2.2.2
  have hne : g2 ≠ M := by omega
  have hne' : M ≠ g2 := by omega
  subst hpv2
  obtain ⟨m0, m1, m2, m3, m4, m5, m6, m7, m8, m9, m10, m11, m12, m13⟩ := ms_cells hm7
  simp only [headM] at m0 m1 m2 m3 m4 m5 m6 m7 m8 m9 m10 m11 m12 m13
  clear m1 m2 m3
  have HB7 := Lib.hid hb07
  have HM7 := Lib.hid hm7
  have HD7 := Lib.hid hd7
  have HOV2 := Lib.hid hov2
  have HRB2 := Lib.hid hrb2
  have hM7 : M < w7.heap.size := (Array.getElem?_eq_some_iff.1 HM7.out).1
  have f4 : w7.frozen? ⟨M, 4, none⟩ = false := by simp [World.frozen?, HM7.out]
  have f9 : w7.frozen? ⟨M, 9, none⟩ = false := by simp [World.frozen?, HM7.out]
  have f11 : w7.frozen? ⟨M, 11, none⟩ = false := by simp [World.frozen?, HM7.out]
  clear hb7 hy2 hm7 hd7 hb07 hl2 hov2 hrb2 hc2 hg2B HT2 HTK2 HM6 HB46
  go_upto_region 50 with fail
  obtain ⟨w8, hw8⟩ : ∃ w8, w8 = (((w7.setCell ⟨M, 4, none⟩ (.int .i64 u0.n)).setCell ⟨M, 9, none⟩ (.int .i64 u1.n)).setCell ⟨M, 11, none⟩ (.bool u2.on)) := ⟨_, rfl⟩
  obtain ⟨m, hme⟩ : ∃ m : Ms, m = bareM 8 v1.n v2.n v3.n u0.n 0 0 false u1.n u2.on := ⟨_, rfl⟩
  have hm8 : w8.heap[M]? = some (.cells m.cs 28 (0, 0)) := by rw [hme, hw8]; exact (set_block (i := 11) (set_block (i := 9) (set_block (i := 4) HM7.out _) _) _)
  have ht8 : Touch [M] w7 w8 := by rw [hw8]; exact (touch_set ((touch_set ((touch_set (Touch.refl _ _) _ _ _ (by simp))) _ _ _ (by simp))) _ _ _ (by simp))
  have hmap : MAp w8 (M + 1) m := by rw [hme]; exact bareM_ap _ _ _ _ _ _ _ _ _ _ _ _
  have hr8 : docEnd (some (m.plain, r2)) = res := by rw [hme]; exact HRES2.out
  rw [← hw8]
  have HM8 := Lib.hid hm8
  have HMAP := Lib.hid hmap
  have HRES8 := Lib.hid hr8
  have HD8 := Lib.hid ((ht8.block D (Array.getElem?_eq_some_iff.1 HD7.out).1 (by simp; omega)).trans HD7.out)
  have HB8 := Lib.hid (below_of_touch HB7.out ht8 hwM)
  clear hw8 hme hm8 ht8 hmap hr8 HM7 HD7 HRES2 m0 m4 m5 m6 m7 m8 m9 m10 m11 m12 m13 f4 f9 f11 d0 d1 d2
  by_cases h0 : nb2 = 0
  · subst h0
    have hr2 : r2 = [] := List.eq_nil_of_length_eq_zero hrl2
    subst hr2
    have hri := rright17_any m w8 HMAP.out.ok HMAP.out.clen
    rw [rightM_plain HMAP.out.ok] at hri
    have hre : (if rightP m.plain = true then some m.plain else none) = res := HRES8.out
    cases hrp : rightP m.plain with
    | false =>
      rw [hrp] at hri hre
      have HNN := Lib.hid (HNO.out hre.symm)
      have HRI := Lib.hid hri
      clear hri hre hrp hrl2
      go_wp2_with (first
        | (refine wpList_loadM_want rfl _ rfl M m _ rfl HM8.out ?_))
      refine HRI.out.mono ?_
      rintro e w9 ⟨rfl, hb9⟩
      have HD9 := Lib.hid ((hb9.block D (Array.getElem?_eq_some_iff.1 HD8.out).1).trans HD8.out)
      have HB9 := Lib.hid (below_then HB8.out hb9)
      clear hb9
      go_upto_region 51 with fail
      go_wp2_with (first
        | (refine wpList_zeroM rfl rfl ?_)
        | (refine wpList_storeM rfl _ _ rfl D zeroM zeroM rfl rfl _ HD9.out ?_; intro wz hdz htz; have HDZ := Lib.hid hdz; have HTZ := Lib.hid htz; clear hdz htz))
      exact bodyPost_ret (results_cell_tmp Try.results17 rfl (load_msg HDZ.out)) rfl (HNN.out _ (below_of_touch HB9.out HTZ.out (Nat.le_of_eq HD.out.symm)))
    | true =>
      rw [hrp] at hri hre
      have HYY := Lib.hid (HYES.out _ hre.symm)
      have HRI := Lib.hid hri
      clear hri hre hrp hrl2
      go_wp2_with (first
        | (refine wpList_loadM_want rfl _ rfl M m _ rfl HM8.out ?_))
      refine HRI.out.mono ?_
      rintro e w9 ⟨rfl, hb9⟩
      have HD9 := Lib.hid ((hb9.block D (Array.getElem?_eq_some_iff.1 HD8.out).1).trans HD8.out)
      have HM9 := Lib.hid ((hb9.block M (Array.getElem?_eq_some_iff.1 HM8.out).1).trans HM8.out)
      have HB9 := Lib.hid (below_then HB8.out hb9)
      have HMAP9 := Lib.hid (HMAP.out.below hb9)
      clear hb9
      go_upto_region 52 with fail
      go_wp2_with (first
        | (refine wpList_loadM rfl _ rfl M m _ rfl HM9.out ?_)
        | (refine wpList_storeM rfl _ _ rfl D m zeroM rfl rfl _ HD9.out ?_; intro wz hdz htz; have HDZ := Lib.hid hdz; have HTZ := Lib.hid htz; clear hdz htz))
      exact bodyPost_ret (results_cell_tmp Try.results17 rfl (load_msg HDZ.out)) rfl (HYY.out m _ rfl (HMAP9.out.keep (w' := wz) fun g hg hl => HTZ.out.block g hl (by simp; omega)).ok HMAP9.out.clen (below_of_touch HB9.out HTZ.out (Nat.le_of_eq HD.out.symm)))
  · have hi : (0 : Int) < (nb2 : Int) := by omega
    have hre : res = none := by
      rw [← HRES8.out]
      cases r2 with
      | nil => simp at hrl2; omega
      | cons x y => rfl
    have HNN := Lib.hid (HNO.out hre)
    clear h0 hre hrl2
    go_upto_region 51 with fail
    go_wp2_with (first
      | (refine wpList_zeroM rfl rfl ?_)
      | (refine wpList_storeM rfl _ _ rfl D zeroM zeroM rfl rfl _ HD8.out ?_; intro wz hdz htz; have HDZ := Lib.hid hdz; have HTZ := Lib.hid htz; clear hdz htz))
    exact bodyPost_ret (results_cell_tmp Try.results17 rfl (load_msg HDZ.out)) rfl (HNN.out _ (below_of_touch HB8.out HTZ.out (Nat.le_of_eq HD.out.symm)))

end Go.Proofs.Ytcejamblndilbaa
