/- The document's Decode: the walk: a piece of a snapshot; entries. -/
import Derived.Test.YtcejamblndilbaaDoc4
import Derived.Test.YtcejamblndilbaaDoc6
import Derived.Test.YtcejamblndilbaaQ9
import Derived.Laws.NewBlocks
import Derived.Deep.DrawnRows
import Derived.BigRegion
import Derived.Deep.RegionHeld3
namespace Go.Proofs.Ytcejamblndilbaa
open Go.RowKit

def confM (f t n i lt off : Int) (d : Sl) (last : Bool) (c : Cf) : Ms := ⟨7, f, t, n, i, lt, 0, false, none, 0, 0, [], off, d, last, c⟩
theorem takeP_small : ∀ (ks : List Int) (bs : List UInt8) (acc ps : List Pv) (r : List UInt8), takeP ks bs acc = some (ps, r) → (∀ p ∈ acc, p.bs.length ≤ 4096) → ∀ p ∈ ps, p.bs.length ≤ 4096
  | [], bs, acc, ps, r, h, ha => by
    rw [takeP] at h
    injection h with h
    injection h with h _
    subst h; exact ha
  | k :: ks, bs, acc, ps, r, h, ha => by
    rw [takeP] at h
    split at h
    · cases h
    · rename_i p t hp
      refine takeP_small ks _ _ _ _ h fun q hq => ?_
      rcases List.mem_append.1 hq with hq | hq
      · exact ha q hq
      · have hqp : q = p := by simpa using hq
        subst hqp
        unfold getVal at hp
        split at hp
        · cases hg : getNum bs with
          | none => rw [hg] at hp; cases hp
          | some z => rw [hg] at hp; injection hp with hp; injection hp with hp _; subst hp; exact Nat.zero_le _
        · split at hp
          · cases hg : getBytes bs with
            | none => rw [hg] at hp; cases hp
            | some z => rw [hg] at hp; injection hp with hp; injection hp with hp _; subst hp; exact (bytes_getB hg).2
          · split at hp
            · cases hg : getFlag bs with
              | none => rw [hg] at hp; cases hp
              | some z => rw [hg] at hp; injection hp with hp; injection hp with hp _; subst hp; exact Nat.zero_le _
            · cases hp

attribute [local go_sem ↓] bare_built
set_option maxRecDepth 100000 in
set_option maxHeartbeats 16000000 in
theorem dec17_k7 (a : Option Addr) (n c : Nat) (b pay : List UInt8) (post : Ending → World → Prop) (w : World) (hr : Row8 w a n b) (hnc : n ≤ c) (hcm : c ≤ maxLen) (hpk : Fr.unframe b = (pay, n, 0)) (h : List Pv) (r : List UInt8) (htk : takeP [1, 1, 1, 1] pay [] = some (h, r)) (hgood : ¬ headBad h) (hkd : (h.getD 0 pv0).n = 7)
    (v : List Pv) (r2 : List UInt8) (htk2 : takeP [1, 1, 1, 3, 4, 3] r [] = some (v, r2)) (res : Option Pm) (hres : docEnd (docKind (pm0 7 (h.getD 1 pv0).n (h.getD 2 pv0).n (h.getD 3 pv0).n) v r2) = res) (hno : res = none → DocNo w post) (hyes : ∀ y, res = some y → DocYes w post y) :
    Calls Try.prog 17 #[.slice a n c] w post := by
  have HTK := Lib.hid htk
  have HGOOD := Lib.hid hgood
  have HKD := Lib.hid hkd
  have HTK2 := Lib.hid htk2
  have HRES := Lib.hid hres
  clear htk hgood hkd htk2 hres
  obtain ⟨D, hD⟩ : ∃ D, D = w.heap.size := ⟨_, rfl⟩
  obtain ⟨X, hX⟩ : ∃ X, X = w.alloc (.cells zeroM.cs 28) := ⟨_, rfl⟩
  have hXb : Below w.heap.size w X := hX ▸ below_alloc (Below.refl _ _) _
  have hd : X.heap[D]? = some (.cells zeroM.cs 28 (0, 0)) := by rw [hX, hD]; exact heap_alloc_new w _
  have hu := refunframe_all a n c b X (hr.below hXb) hnc hcm
  have hnm : n ≤ 9223372036854775807 := by simp only [maxLen] at hcm; omega
  rw [hpk] at hu
  simp only at hu
  have HNO := Lib.hid hno
  have HYES := Lib.hid hyes
  have HU := Lib.hid hu
  have HDD := Lib.hid hd
  have HX := Lib.hid hX
  have HXB := Lib.hid hXb
  have HD := Lib.hid hD
  clear hr hnc hcm hu hd hX hXb hpk hD hno hyes
  unfold zeroM Ms.cs at HX
  simp only at HX
  go_enter Try.func17, Try.ntmps17
  go_wp2_with fail
  rw [← HX.out, ← HD.out]
  refine HU.out.mono ?_
  rintro e w2 ⟨ao, cap, rfl, hown, hb2⟩
  have hd2 := (hb2.block D (Array.getElem?_eq_some_iff.1 HDD.out).1).trans HDD.out
  have HB2 := Lib.hid (below_then HXB.out hb2)
  have HOW := Lib.hid hown
  have HD2 := Lib.hid hd2
  clear hb2 hown hd2 HU HX HXB HDD
  have hk1 : ∀ o, RowN (w2.alloc (.cells #[.int .i64 1, .int .i64 1, .int .i64 1, .int .i64 1] o)) (some ⟨w2.heap.size, 0, none⟩) 1 4 (cellsZ [1, 1, 1, 1]) := fun o => RowN.of_block (heap_alloc_new w2 _) rfl rfl
  have hr1 : ∀ o, Row8 (w2.alloc o) ao pay.length pay := fun o => (HOW.out.row.alloc o)
  have ht1 := fun o => take_any ao pay.length cap pay (some ⟨w2.heap.size, 0, none⟩) 4 4 [1, 1, 1, 1] (w2.alloc (.cells #[.int .i64 1, .int .i64 1, .int .i64 1, .int .i64 1] o)) (hr1 _) HOW.out.cap.1 HOW.out.cap.2 (hk1 o) (by decide) (fun z hz => .inl (by simpa using hz))
  have HT1 := Lib.hid ht1
  clear hk1 hr1 ht1
  go_wp2_with fail
  refine (HT1.out _).mono ?_
  rintro e w4 ⟨hb4, hn1, hy1⟩
  have HB4 := Lib.hid (below_then HB2.out (below_then (below_alloc (Below.refl _ _) _) hb4))
  have hd4 := ((below_then (below_alloc (Below.refl w2.heap.size w2) (.cells #[.int .i64 1, .int .i64 1, .int .i64 1, .int .i64 1] 3)) hb4).block D (Array.getElem?_eq_some_iff.1 HD2.out).1).trans HD2.out
  have HD4 := Lib.hid hd4
  have HB24 := Lib.hid hb4
  clear hb4 hd4 HT1
  obtain ⟨vs, av, nv, cv, ab, nb, cb, rfl, hpv, hov, hrb, hrl, hnb, hcb⟩ := hy1 _ _ HTK.out
  have hl4 := takeP_len _ _ _ _ _ HTK.out
  rw [← hpv, List.length_map] at hl4
  obtain ⟨v0, v1, v2, v3, rfl⟩ := list4 hl4
  obtain rfl : 4 = nv := hov.len
  obtain ⟨g, rfl, hgB, hgl, hc⟩ := hov.cells (by decide)
  have c0 : w4.cell? ⟨g, 1, none⟩ = some (.int .i64 v0.n) := (hc 0 v0 rfl).2.1
  have c1 : w4.cell? ⟨g, 6, none⟩ = some (.int .i64 v1.n) := (hc 1 v1 rfl).2.1
  have c2 : w4.cell? ⟨g, 11, none⟩ = some (.int .i64 v2.n) := (hc 2 v2 rfl).2.1
  have c3 : w4.cell? ⟨g, 16, none⟩ = some (.int .i64 v3.n) := (hc 3 v3 rfl).2.1
  subst hpv
  have hb : (1 ≤ v1.n ∧ v1.n ≤ 7) ∧ (1 ≤ v2.n ∧ v2.n ≤ 7) := by
    have : ¬ (v0.n < 1 ∨ 8 < v0.n ∨ v1.n < 1 ∨ 7 < v1.n ∨ v2.n < 1 ∨ 7 < v2.n) := HGOOD.out
    omega
  obtain ⟨⟨b3, b4⟩, b5, b6⟩ := hb
  obtain ⟨k0, n0, x0, s0, o0⟩ := v0
  have hkd : n0 = 7 := HKD.out
  subst hkd
  have hres2 : docEnd (docKind (pm0 7 v1.n v2.n v3.n) v r2) = res := HRES.out
  have HRES2 := Lib.hid hres2
  have HRB := Lib.hid hrb
  have hlo1 : w.heap.size ≤ w2.heap.size := HB2.out.size
  have HR4 := Lib.hid (HOW.out.row.below (below_then (below_alloc (Below.refl _ _) (.cells #[.int .i64 1, .int .i64 1, .int .i64 1, .int .i64 1] 3)) HB24.out))
  simp only at c0
  clear hn1 hy1 HGOOD HTK HKD HRES hres2 hov hrb hc hl4 hrl
  go_upto_region 7 with fail
  go_region_held3 (fun w' => w'.cell? ⟨g, 1, none⟩ = some (.int .i64 7) ∧ w'.cell? ⟨g, 6, none⟩ = some (.int .i64 v1.n) ∧ w'.cell? ⟨g, 11, none⟩ = some (.int .i64 v2.n) ∧ w'.cell? ⟨g, 16, none⟩ = some (.int .i64 v3.n)) (go_keep) (fail)
  rename_i hHeld
  clear hHeld
  obtain ⟨M, hM⟩ : ∃ M, M = w4.heap.size := ⟨_, rfl⟩
  obtain ⟨w5, hw5⟩ : ∃ w5, w5 = (w4.alloc (.cells (headM 7 v1.n v2.n v3.n).cs 28)).drew := ⟨_, rfl⟩
  have hb5 : Below w4.heap.size w4 w5 := hw5 ▸ (below_alloc (Below.refl _ _) _).drew
  have hm5 : w5.heap[M]? = some (.cells (headM 7 v1.n v2.n v3.n).cs 28 (0, 0)) := by rw [hw5, hM]; exact heap_alloc_new w4 _
  unfold headM Ms.cs at hw5
  simp only at hw5
  rw [← hw5, ← hM]
  have HM := Lib.hid hM
  have HB45 := Lib.hid hb5
  have HM5 := Lib.hid hm5
  have hDM : D < M := by have := (Array.getElem?_eq_some_iff.1 HD4.out).1; omega
  have hwM : w.heap.size ≤ M := by have := HB4.out.size; omega
  obtain ⟨m0, -⟩ := ms_cells hm5
  simp only [headM] at m0
  clear hw5 hb5 hm5 hM c0 c1 c2 c3 hgB hgl
  go_wp2_with fail
  refine (kinds_any 7 w5 (by decide)).mono ?_
  rintro e w6 ⟨ak, nk, ck, rfl, hks, hn6, hb6⟩
  have hks' : RowN w6 ak 1 nk (cellsZ [1, 1, 1, 3, 4, 3]) := hks
  have HB46 := Lib.hid (below_then HB45.out hb6)
  have ht2 := take_any ab nb cb r ak nk ck [1, 1, 1, 3, 4, 3] w6 (HRB.out _ (HR4.out.below HB46.out)) hnb hcb hks' (by omega) (fun z hz => by simp at hz; simp only [goodK]; omega)
  have HT2 := Lib.hid ht2
  have HM6 := Lib.hid ((hb6.block M (Array.getElem?_eq_some_iff.1 HM5.out).1).trans HM5.out)
  have hM6 : M < w6.heap.size := (Array.getElem?_eq_some_iff.1 HM6.out).1
  clear hks hks' hb6 ht2 m0 hn6 HM5
  go_wp2_with fail
  refine HT2.out.mono ?_
  rintro e w7 ⟨hb7, -, hy2⟩
  obtain ⟨us, au, nu, cu, ab2, nb2, cb2, rfl, hpv2, hov2, hrb2, hrl2, hnb2, hcb2⟩ := hy2 _ _ HTK2.out
  have HB47 := Lib.hid (below_then HB46.out hb7)
  have hm7 := (hb7.block M (Array.getElem?_eq_some_iff.1 HM6.out).1).trans HM6.out
  have hd7 := (HB47.out.block D (Array.getElem?_eq_some_iff.1 HD4.out).1).trans HD4.out
  have hb07 : Below w.heap.size w w7 := below_then HB4.out HB47.out
  have hl2 := takeP_len _ _ _ _ _ HTK2.out
  rw [← hpv2, List.length_map] at hl2
  obtain ⟨u0, u1, u2, u3, u4, u5, rfl⟩ := list6 hl2
  obtain rfl : 6 = nu := hov2.len
  obtain ⟨g2, rfl, hg2B, hg2l, hc2⟩ := hov2.cells (by decide)
  have d0 : w7.cell? ⟨g2, 1, none⟩ = some (.int .i64 u0.n) := (hc2 0 u0 rfl).2.1
  have d1 : w7.cell? ⟨g2, 6, none⟩ = some (.int .i64 u1.n) := (hc2 1 u1 rfl).2.1
  have d2 : w7.cell? ⟨g2, 11, none⟩ = some (.int .i64 u2.n) := (hc2 2 u2 rfl).2.1
  have d3 : w7.cell? ⟨g2, 18, none⟩ = some (.slice u3.s.a u3.s.len u3.s.cap) := (hc2 3 u3 rfl).2.2.2.1
  have d4 : w7.cell? ⟨g2, 24, none⟩ = some (.bool u4.on) := (hc2 4 u4 rfl).2.2.2.2
  have d5 : w7.cell? ⟨g2, 28, none⟩ = some (.slice u5.s.a u5.s.len u5.s.cap) := (hc2 5 u5 rfl).2.2.2.1
  have hne : g2 ≠ M := by omega
  have hne' : M ≠ g2 := by omega
  subst hpv2
  obtain ⟨m0, m1, m2, m3, m4, m5, m6, m7, m8, m9, m10, m11, m12, m13⟩ := ms_cells hm7
  simp only [headM] at m0 m1 m2 m3 m4 m5 m6 m7 m8 m9 m10 m11 m12 m13
  clear m1 m2 m3
  have HB7 := Lib.hid hb07
  have HM7 := Lib.hid hm7
  have HD7 := Lib.hid hd7
  have HOV2 := Lib.hid hov2
  have HRB2 := Lib.hid hrb2
  have hM7 : M < w7.heap.size := (Array.getElem?_eq_some_iff.1 HM7.out).1
  have f4 : w7.frozen? ⟨M, 4, none⟩ = false := by simp [World.frozen?, HM7.out]
  have f5 : w7.frozen? ⟨M, 5, none⟩ = false := by simp [World.frozen?, HM7.out]
  have f9 : w7.frozen? ⟨M, 9, none⟩ = false := by simp [World.frozen?, HM7.out]
  have f10 : w7.frozen? ⟨M, 10, none⟩ = false := by simp [World.frozen?, HM7.out]
  have f11 : w7.frozen? ⟨M, 11, none⟩ = false := by simp [World.frozen?, HM7.out]
  have hsm := takeP_small _ _ _ _ _ HTK2.out (fun p hp => by cases hp)
  have hb5l : u5.s.bs.length ≤ 4096 := hsm u5.pv (by simp)
  clear hsm hb7 hy2 hm7 hd7 hb07 hl2 hov2 hrb2 hc2 hg2B HT2 HTK2 HM6 HB46
  go_upto_region 42 with fail
  obtain ⟨w8, hw8⟩ : ∃ w8, w8 = (((((w7.setCell ⟨M, 4, none⟩ (.int .i64 u0.n)).setCell ⟨M, 5, none⟩ (.int .i64 u1.n)).setCell ⟨M, 9, none⟩ (.int .i64 u2.n)).setCell ⟨M, 10, none⟩ (.slice u3.s.a u3.s.len u3.s.cap)).setCell ⟨M, 11, none⟩ (.bool u4.on)) := ⟨_, rfl⟩
  have hm8 : w8.heap[M]? = some (.cells (confM v1.n v2.n v3.n u0.n u1.n u2.n u3.s u4.on ⟨⟨none, 0, 0, []⟩, ⟨none, 0, 0, []⟩⟩).cs 28 (0, 0)) := by rw [hw8]; exact (set_block (i := 11) (set_block (i := 10) (set_block (i := 9) (set_block (i := 5) (set_block (i := 4) HM7.out _) _) _) _) _)
  have ht8 : Touch [M] w7 w8 := by rw [hw8]; exact (touch_set ((touch_set ((touch_set ((touch_set ((touch_set (Touch.refl _ _) _ _ _ (by simp))) _ _ _ (by simp))) _ _ _ (by simp))) _ _ _ (by simp))) _ _ _ (by simp))
  rw [← hw8]
  have hu5 : Own8 w8 (M + 1) u5.s.a u5.s.len u5.s.cap u5.s.bs := ((HOV2.out.own u5 (by simp)).keep fun g hg hl => ht8.block g hl (by simp; omega)).more (by omega)
  have hu3 : Own8 w8 (M + 1) u3.s.a u3.s.len u3.s.cap u3.s.bs := ((HOV2.out.own u3 (by simp)).keep fun g hg hl => ht8.block g hl (by simp; omega)).more (by omega)
  have e5 : w8.cell? ⟨g2, 28, none⟩ = some (.slice u5.s.a u5.s.len u5.s.cap) := (World.cell?_of_block (a := ⟨g2, 28, none⟩) (ht8.block g2 hg2l (by simp; omega))).trans d5
  have hd8 := (ht8.block D (Array.getElem?_eq_some_iff.1 HD7.out).1 (by simp; omega)).trans HD7.out
  have hs8 : w8.heap.size = w7.heap.size := by rw [hw8]; simp
  have hlen5 := hu5.row.1
  have hld := rload_any u5.s.a u5.s.len u5.s.cap u5.s.bs w8 hu5.row hu5.cap.1 hu5.cap.2 (by omega)
  have HLD := Lib.hid hld
  have HM8 := Lib.hid hm8
  have HU3 := Lib.hid hu3
  have HD8 := Lib.hid hd8
  have HB8 := Lib.hid (below_of_touch HB7.out ht8 hwM)
  clear hw8 hm8 ht8 hu5 hu3 hd8 hld hlen5 m0 m4 m5 m6 m7 m8 m9 m10 m11 m12 m13 f4 f5 f9 f10 f11 d0 d1 d2 d3 d4 d5 HM7 HD7 HB7 HOV2
  go_wp2_with fail
  refine HLD.out.mono ?_
  rintro e w9 ⟨c, rfl, hsays, hcok, hcp, hb9⟩
  have hm9 := (hb9.block M (Array.getElem?_eq_some_iff.1 HM8.out).1).trans HM8.out
  have hd9 := (hb9.block D (Array.getElem?_eq_some_iff.1 HD8.out).1).trans HD8.out
  have hu3 := HU3.out.below hb9 (Nat.le_refl _)
  have hs9 := hb9.size
  have HB9 := Lib.hid (below_then HB8.out hb9)
  obtain ⟨w10, hw10⟩ : ∃ w10, w10 = w9.alloc (.cells #[.slice c.v.a c.v.len c.v.cap, .slice c.l.a c.l.len c.l.cap] 26) := ⟨_, rfl⟩
  have hb10 : Below w9.heap.size w9 w10 := hw10 ▸ below_alloc (Below.refl _ _) _
  have hq10 : w10.heap[w9.heap.size]? = some (.cells #[.slice c.v.a c.v.len c.v.cap, .slice c.l.a c.l.len c.l.cap] 26 (0, 0)) := hw10 ▸ heap_alloc_new w9 _
  have HW10 := Lib.hid hw10
  have hm10 := (hb10.block M (Array.getElem?_eq_some_iff.1 hm9).1).trans hm9
  have hd10 := (hb10.block D (Array.getElem?_eq_some_iff.1 hd9).1).trans hd9
  have HM10 := Lib.hid hm10
  have HD10 := Lib.hid hd10
  have HB10 := Lib.hid (below_then HB9.out hb10)
  have HU3' := Lib.hid (hu3.below hb10 (Nat.le_refl _))
  have HC10 := Lib.hid (hcok.below hb10)
  have HQ10 := Lib.hid hq10
  have HCP := Lib.hid hcp
  have hres : docEnd (match loadOf u5.s.bs with | none => none | some (vs, ls) => some ((⟨7, v1.n, v2.n, v3.n, u0.n, u1.n, 0, false, [], u2.n, u3.s.bs, u4.on, vs, ls⟩ : Pm), r2)) = res := HRES2.out
  cases hlo : loadOf u5.s.bs with
  | none =>
    rw [hlo] at hres
    have HNN := Lib.hid (HNO.out hres.symm)
    simp only [Option.isSome_none]
    clear hres hlo hsays hcok hcp hm9 hd9 hu3 hb9 hb10 hq10 hw10 hm10 hd10 HRES2
    go_upto_region 44 with fail
    rw [← HW10.out]
    go_wp2_with (first
      | (refine wpList_zeroM rfl rfl ?_)
      | (refine wpList_storeM rfl _ _ rfl D zeroM zeroM rfl rfl _ HD10.out ?_; intro wz hdz htz; have HDZ := Lib.hid hdz; have HTZ := Lib.hid htz; clear hdz htz))
    exact bodyPost_ret (results_cell_tmp Try.results17 rfl (load_msg HDZ.out)) rfl (HNN.out _ (below_of_touch HB10.out HTZ.out (Nat.le_of_eq HD.out.symm)))
  | some q =>
    obtain ⟨vs, ls⟩ := q
    rw [hlo] at hres hsays
    simp only [Option.isSome_some]
    have hcs : (c.v.zs, c.l.zs) = (vs, ls) := hsays rfl
    injection hcs with hvs hls
    subst hvs hls
    obtain ⟨hr1, hr2, _⟩ := confRight_facts (loadOf_right hlo)
    have hl1 := (rising_len hr1).1
    have hl2 := (rising_len hr2).1
    have hcl1 : c.v.zs.length = c.v.len := by have := hcok.1.1.1; rw [cellsZ_len] at this; omega
    have hcl2 : c.l.zs.length = c.l.len := by have := hcok.2.1.1; rw [cellsZ_len] at this; omega
    obtain ⟨-, -, -, -, -, -, -, -, -, -, -, -, z12, z13⟩ := ms_cells hm10
    simp only [confM] at z12 z13
    have y12 : w10.frozen? ⟨M, 12, none⟩ = false := by simp [World.frozen?, hm10]
    have y13 : w10.frozen? ⟨M, 13, none⟩ = false := by simp [World.frozen?, hm10]
    obtain ⟨q0, q1, -, -⟩ := two_cells hq10
    have hqM : w9.heap.size ≠ M := by omega
    have hMq : M ≠ w9.heap.size := by omega
    have HRR := Lib.hid hres
    clear hres hlo hsays hcok hcp hm9 hd9 hu3 hb9 hb10 hq10 hw10 hm10 hd10 hr1 hr2 HRES2
    go_upto_region 45 with fail
    rw [← HW10.out]
    go_upto_region 50 with fail
    obtain ⟨w11, hw11⟩ : ∃ w11, w11 = (w10.setCell ⟨M, 12, none⟩ (.slice c.v.a c.v.len c.v.cap)).setCell ⟨M, 13, none⟩ (.slice c.l.a c.l.len c.l.cap) := ⟨_, rfl⟩
    obtain ⟨m, hme⟩ : ∃ m : Ms, m = confM v1.n v2.n v3.n u0.n u1.n u2.n u3.s u4.on c := ⟨_, rfl⟩
    have hm11 : w11.heap[M]? = some (.cells m.cs 28 (0, 0)) := by rw [hme, hw11]; exact set_block (i := 13) (set_block (i := 12) HM10.out _) _
    have ht11 : Touch [M] w10 w11 := by rw [hw11]; exact touch_set (touch_set (Touch.refl _ _) _ _ _ (by simp)) _ _ _ (by simp)
    have hmap : MAp w11 (M + 1) m := by
      rw [hme]
      refine MAp.keep (w := w10) ⟨World.ownsRow_nil _ _ _ _, rfl, fun e he => (by cases he), HU3'.out, HC10.out, ⟨fun b off e hl => ?_, fun b off e hl => ?_⟩, ⟨?_, ?_⟩⟩ fun g hg hl => ht11.block g hl (by simp; omega)
      · have := HCP.out.1 b off e hl; omega
      · have := HCP.out.2 b off e hl; omega
      · show c.v.len ≤ _; omega
      · show c.l.len ≤ _; omega
    have hr8 : docEnd (some (m.plain, r2)) = res := by rw [hme]; exact HRR.out
    rw [← hw11]
    have hd11 := (ht11.block D (Array.getElem?_eq_some_iff.1 HD10.out).1 (by simp; omega)).trans HD10.out
    have hb11 := below_of_touch HB10.out ht11 hwM
    clear HM8 HD8 HB8
    have HM8 := Lib.hid hm11
    have HMAP := Lib.hid hmap
    have HRES8 := Lib.hid hr8
    have HD8 := Lib.hid hd11
    have HB8 := Lib.hid hb11
    clear hw11 hme hm11 ht11 hmap hr8 hd11 hb11 HM10 HD10 HB10 HRR HC10 HU3' HU3 HQ10 HCP z12 z13 y12 y13 q0 q1 hqM hMq HW10 HLD hl1 hl2 hcl1 hcl2
    by_cases h0 : nb2 = 0
    · subst h0
      have hr2 : r2 = [] := List.eq_nil_of_length_eq_zero hrl2
      subst hr2
      have hri := rright17_any m w11 HMAP.out.ok HMAP.out.clen
      rw [rightM_plain HMAP.out.ok] at hri
      have hre : (if rightP m.plain = true then some m.plain else none) = res := HRES8.out
      cases hrp : rightP m.plain with
      | false =>
        rw [hrp] at hri hre
        have HNN := Lib.hid (HNO.out hre.symm)
        have HRI := Lib.hid hri
        clear hri hre hrp hrl2
        go_wp2_with (first
          | (refine wpList_loadM_want rfl _ rfl M m _ rfl HM8.out ?_))
        refine HRI.out.mono ?_
        rintro e w9 ⟨rfl, hb9⟩
        have HD9 := Lib.hid ((hb9.block D (Array.getElem?_eq_some_iff.1 HD8.out).1).trans HD8.out)
        have HB9 := Lib.hid (below_then HB8.out hb9)
        clear hb9
        go_upto_region 51 with fail
        go_wp2_with (first
          | (refine wpList_zeroM rfl rfl ?_)
          | (refine wpList_storeM rfl _ _ rfl D zeroM zeroM rfl rfl _ HD9.out ?_; intro wz hdz htz; have HDZ := Lib.hid hdz; have HTZ := Lib.hid htz; clear hdz htz))
        exact bodyPost_ret (results_cell_tmp Try.results17 rfl (load_msg HDZ.out)) rfl (HNN.out _ (below_of_touch HB9.out HTZ.out (Nat.le_of_eq HD.out.symm)))
      | true =>
        rw [hrp] at hri hre
        have HYY := Lib.hid (HYES.out _ hre.symm)
        have HRI := Lib.hid hri
        clear hri hre hrp hrl2
        go_wp2_with (first
          | (refine wpList_loadM_want rfl _ rfl M m _ rfl HM8.out ?_))
        refine HRI.out.mono ?_
        rintro e w9 ⟨rfl, hb9⟩
        have HD9 := Lib.hid ((hb9.block D (Array.getElem?_eq_some_iff.1 HD8.out).1).trans HD8.out)
        have HM9 := Lib.hid ((hb9.block M (Array.getElem?_eq_some_iff.1 HM8.out).1).trans HM8.out)
        have HB9 := Lib.hid (below_then HB8.out hb9)
        have HMAP9 := Lib.hid (HMAP.out.below hb9)
        clear hb9
        go_upto_region 52 with fail
        go_wp2_with (first
          | (refine wpList_loadM rfl _ rfl M m _ rfl HM9.out ?_)
          | (refine wpList_storeM rfl _ _ rfl D m zeroM rfl rfl _ HD9.out ?_; intro wz hdz htz; have HDZ := Lib.hid hdz; have HTZ := Lib.hid htz; clear hdz htz))
        exact bodyPost_ret (results_cell_tmp Try.results17 rfl (load_msg HDZ.out)) rfl (HYY.out m _ rfl (HMAP9.out.keep (w' := wz) fun g hg hl => HTZ.out.block g hl (by simp; omega)).ok HMAP9.out.clen (below_of_touch HB9.out HTZ.out (Nat.le_of_eq HD.out.symm)))
    · have hi : (0 : Int) < (nb2 : Int) := by omega
      have hre : res = none := by
        rw [← HRES8.out]
        cases r2 with
        | nil => simp at hrl2; omega
        | cons x y => rfl
      have HNN := Lib.hid (HNO.out hre)
      clear h0 hre hrl2
      go_upto_region 51 with fail
      go_wp2_with (first
        | (refine wpList_zeroM rfl rfl ?_)
        | (refine wpList_storeM rfl _ _ rfl D zeroM zeroM rfl rfl _ HD8.out ?_; intro wz hdz htz; have HDZ := Lib.hid hdz; have HTZ := Lib.hid htz; clear hdz htz))
      exact bodyPost_ret (results_cell_tmp Try.results17 rfl (load_msg HDZ.out)) rfl (HNN.out _ (below_of_touch HB8.out HTZ.out (Nat.le_of_eq HD.out.symm)))

theorem wrap_is64 (n : Int) : IntKind.i64.wrap n = wrap64 n := by unfold wrap64; exact IntKind.wrap_i64 n
theorem step_appendE {w : World} {ops : Array Oper} {o : Oper} {a : Act} {K : Act → World → Prop} {Q : Exit → Act → World → Prop} {E : Prop} (hgd : o.guard = none) (s x : Operand)
    (ho : o.op = .call { callee := .builtin .append, args := #[s, x], argTypes := #[22, 22] })
    (base : Nat) (ao : Option Addr) (n cap : Nat) (vs : List Value) (hs : a.eval s = .slice ao n cap) (hown : w.ownsRow base 41 4 (.slice ao n cap) n vs)
    (ax : Option Addr) (m c : Nat) (xs : List Value) (hx : a.eval x = .slice ax m c) (hrow : RowN w ax 4 m xs) (hnil : ax = none → c = 0) (h1 : ∀ u ∈ xs, u.oneCell' = true) (hbig : n + m ≤ 2000000000000) (hbase : base ≤ w.heap.size) (N : Nat) (hN : n + m = N)
    (h : ∀ ao' cap' w', w'.ownsRow base 41 4 (.slice ao' N cap') N (vs ++ xs) → w.grownBy w' (Value.ownBlock (.slice ao n cap)) →
      (Value.ownBlock (.slice ao' N cap') = Value.ownBlock (.slice ao n cap) ∨ Value.ownBlock (.slice ao' N cap') = some w.heap.size) → K (a.put o.dst (.slice ao' N cap')) w') :
    if Region.wanted o (yielded ops a.tmps) = true then Oper.wp Try.prog o a w K Q else E := by
  subst hN
  have hw : Region.wanted o (yielded ops a.tmps) = true := by simp [Region.wanted, hgd]
  rw [if_pos hw]
  obtain ⟨i0, hi, hz0, hz1, hz2⟩ := info_parts info_entry
  obtain ⟨ao', cap', w', hr, h2, h3, h4⟩ := run_append_row (P := Try.prog) w base 22 o.type 41 i0 _ 4 48 Try.underlying22 hi hz0 hz1 hz2 rfl (by decide) ao n cap vs hown ax m c xs hrow.1 hrow.news hnil h1 (by simp only [maxLen]; omega) (by omega) hbase
  unfold Oper.wp execOp
  simp only [ho, resolve, invoke, builtin, Sem.run_bind, Sem.run_pure, Result.andThen_ok, List.map_toArray, List.map_cons, List.map_nil, hs, hx, hr]
  exact h ao' cap' w' h2 h3 h4

def entM (f t n i lt cm : Int) (ea : Option Addr) (en ecap : Nat) (es : List En) : Ms := ⟨5, f, t, n, i, lt, cm, false, ea, en, ecap, es, 0, ⟨none, 0, 0, []⟩, false, ⟨⟨none, 0, 0, []⟩, ⟨none, 0, 0, []⟩⟩⟩
/-- a message that gets entries, since the world w0 -/
structure E5 (w0 w : World) (M : Nat) (m : Ms) : Prop where
  cell : w.heap[M]? = some (.cells m.cs 28 (0, 0))
  row : w.ownsRow w0.heap.size 41 4 (.slice m.ea m.en m.ecap) m.en (m.es.flatMap En.cells)
  len : m.es.length = m.en
  ents : ∀ e ∈ m.es, Own8 w w0.heap.size e.s.a e.s.len e.s.cap e.s.bs
  touch : Touch [M] w0 w
theorem E5.lt {w0 w : World} {M : Nat} {m : Ms} (h : E5 w0 w M m) : M < w.heap.size := (Array.getElem?_eq_some_iff.1 h.cell).1
theorem E5.below {w0 w w' : World} {M : Nat} {m : Ms} (h : E5 w0 w M m) (hb : Below w.heap.size w w') : E5 w0 w' M m :=
  ⟨(hb.block M h.lt).trans h.cell, own_keep h.row fun g _ hl => hb.block g hl, h.len, fun e he => (h.ents e he).keep fun g _ hl => hb.block g hl, h.touch.trans (Touch.of_below hb)⟩
theorem E5.ap {w0 w : World} {M : Nat} {f t n i lt cm : Int} {ea : Option Addr} {en ecap : Nat} {es : List En} (h : E5 w0 w M (entM f t n i lt cm ea en ecap es)) : MAp w w0.heap.size (entM f t n i lt cm ea en ecap es) :=
  ⟨h.row, h.len, h.ents, Own8.nil _ _, ⟨⟨RowN.nil _ _ _, fun _ => ⟨rfl, rfl⟩⟩, ⟨RowN.nil _ _ _, fun _ => ⟨rfl, rfl⟩⟩⟩, ⟨fun b off e => (by cases e), fun b off e => (by cases e)⟩, ⟨Nat.zero_le _, Nat.zero_le _⟩⟩
theorem E5.mid {w0 w W w6 : World} {M : Nat} {m : Ms} {o : Obj} (h : E5 w0 w M m) (hM : M < w0.heap.size) (hW : W.heap = (w.alloc o).heap) (hg : W.grownBy w6 (Value.ownBlock (.slice m.ea m.en m.ecap))) :
    (∀ g, g < w.heap.size → Value.ownBlock (.slice m.ea m.en m.ecap) ≠ some g → w6.heap[g]? = w.heap[g]?) ∧ w.heap.size ≤ w6.heap.size ∧ w6.heap[M]? = some (.cells m.cs 28 (0, 0)) := by
  have hs : W.heap.size = w.heap.size + 1 := by rw [hW]; exact World.size_alloc _ _
  have hk : ∀ g, g < w.heap.size → Value.ownBlock (.slice m.ea m.en m.ecap) ≠ some g → w6.heap[g]? = w.heap[g]? := fun g hl hn => by
    rw [hg.block g (by omega) (fun e => hn e.symm), hW]
    exact heap_alloc_old w o hl
  exact ⟨hk, by have := hg.size; omega, (hk M h.lt (fun e => by have := (h.row.lt M e).1; omega)).trans h.cell⟩
theorem E5.grow {w0 w W w6 : World} {M : Nat} {m : Ms} {o : Obj} {e : En} {ao : Option Addr} {cap : Nat} (h : E5 w0 w M m) (hM : M < w0.heap.size) (hg : W.grownBy w6 (Value.ownBlock (.slice m.ea m.en m.ecap))) (hW : W.heap = (w.alloc o).heap) (hWo : W.os = w.os ∧ W.tape = w.tape ∧ W.output = w.output)
    (ho : w6.ownsRow w0.heap.size 41 4 (.slice ao (m.en + 1) cap) (m.en + 1) (m.es.flatMap En.cells ++ e.cells)) (he : Own8 w w0.heap.size e.s.a e.s.len e.s.cap e.s.bs) :
    E5 w0 (w6.setCell ⟨M, 8, none⟩ (.slice ao (m.en + 1) cap)) M (m.more ao cap e) := by
  obtain ⟨hk6, hs6, hM6⟩ := h.mid hM hW hg
  have ht : Touch [M] w6 (w6.setCell ⟨M, 8, none⟩ (.slice ao (m.en + 1) cap)) := Touch.set w6 M 8 _ (by simp)
  have hkk : ∀ g, g < w.heap.size → g ≠ M → Value.ownBlock (.slice m.ea m.en m.ecap) ≠ some g → (w6.setCell ⟨M, 8, none⟩ (.slice ao (m.en + 1) cap)).heap[g]? = w.heap[g]? := fun g hl hn h3 => (ht.block g (by omega) (by simpa using hn)).trans (hk6 g hl h3)
  refine ⟨set_block (i := 8) hM6 _, ?_, ?_, ?_, ?_⟩
  · show World.ownsRow _ w0.heap.size 41 4 (.slice ao (m.en + 1) cap) (m.en + 1) ((m.es ++ [e]).flatMap En.cells)
    rw [List.flatMap_append]
    have := own_keep ho (fun g hgg hl => ht.block g hl (by have := (ho.lt g hgg).1; simp; omega))
    simpa using this
  · show (m.es ++ [e]).length = m.en + 1
    rw [List.length_append, h.len]; rfl
  · intro x hx
    rcases List.mem_append.1 hx with hx | hx
    · exact own_keep (h.ents x hx) fun g hgg hl => hkk g hl (by have := ((h.ents x hx).block g hgg).1; omega) (own_ne_row (h.ents x hx) h.row (by decide) hgg)
    · have hxe : x = e := by simpa using hx
      subst hxe
      exact own_keep he fun g hgg hl => hkk g hl (by have := (he.block g hgg).1; omega) (own_ne_row he h.row (by decide) hgg)
  · exact ⟨((ht.os.trans hg.os).trans hWo.1).trans h.touch.os, ((ht.tape.trans hg.tape).trans hWo.2.1).trans h.touch.tape, ((ht.output.trans hg.output).trans hWo.2.2).trans h.touch.output, by have := h.touch.size; have := ht.size; omega,
      fun k hk hn => (hkk k (by have := h.touch.size; omega) (by simpa using hn) (fun e => by have := (h.row.lt k e).1; omega)).trans (h.touch.block k hk hn)⟩
theorem own_heap {w W : World} {B : Nat} {e : TypeId} {s n : Nat} {v : Value} {xs : List Value} (h : w.ownsRow B e s v n xs) (hW : ∀ g, g < w.heap.size → W.heap[g]? = w.heap[g]?) : W.ownsRow B e s v n xs := own_keep h fun g _ hl => hW g hl

set_option maxRecDepth 100000 in
set_option maxHeartbeats 16000000 in
theorem dec17_k5 (a : Option Addr) (n c : Nat) (b pay : List UInt8) (post : Ending → World → Prop) (w : World) (hr : Row8 w a n b) (hnc : n ≤ c) (hcm : c ≤ maxLen) (hpk : Fr.unframe b = (pay, n, 0)) (h : List Pv) (r : List UInt8) (htk : takeP [1, 1, 1, 1] pay [] = some (h, r)) (hgood : ¬ headBad h) (hkd : (h.getD 0 pv0).n = 5)
    (v : List Pv) (r2 : List UInt8) (htk2 : takeP [1, 1, 1, 1] r [] = some (v, r2)) (res : Option Pm) (hres : docEnd (docKind (pm0 5 (h.getD 1 pv0).n (h.getD 2 pv0).n (h.getD 3 pv0).n) v r2) = res) (hno : res = none → DocNo w post) (hyes : ∀ y, res = some y → DocYes w post y) :
    Calls Try.prog 17 #[.slice a n c] w post := by
  have HTK := Lib.hid htk
  have HGOOD := Lib.hid hgood
  have HKD := Lib.hid hkd
  have HTK2 := Lib.hid htk2
  have HRES := Lib.hid hres
  clear htk hgood hkd htk2 hres
  obtain ⟨D, hD⟩ : ∃ D, D = w.heap.size := ⟨_, rfl⟩
  obtain ⟨X, hX⟩ : ∃ X, X = w.alloc (.cells zeroM.cs 28) := ⟨_, rfl⟩
  have hXb : Below w.heap.size w X := hX ▸ below_alloc (Below.refl _ _) _
  have hd : X.heap[D]? = some (.cells zeroM.cs 28 (0, 0)) := by rw [hX, hD]; exact heap_alloc_new w _
  have hu := refunframe_all a n c b X (hr.below hXb) hnc hcm
  have hnm : n ≤ 9223372036854775807 := by simp only [maxLen] at hcm; omega
  rw [hpk] at hu
  simp only at hu
  have HNO := Lib.hid hno
  have HYES := Lib.hid hyes
  have HU := Lib.hid hu
  have HDD := Lib.hid hd
  have HX := Lib.hid hX
  have HXB := Lib.hid hXb
  have HD := Lib.hid hD
  clear hr hnc hcm hu hd hX hXb hpk hD hno hyes
  unfold zeroM Ms.cs at HX
  simp only at HX
  go_enter Try.func17, Try.ntmps17
  go_wp2_with fail
  rw [← HX.out, ← HD.out]
  refine HU.out.mono ?_
  rintro e w2 ⟨ao, cap, rfl, hown, hb2⟩
  have hd2 := (hb2.block D (Array.getElem?_eq_some_iff.1 HDD.out).1).trans HDD.out
  have HB2 := Lib.hid (below_then HXB.out hb2)
  have HOW := Lib.hid hown
  have HD2 := Lib.hid hd2
  clear hb2 hown hd2 HU HX HXB HDD
  have hk1 : ∀ o, RowN (w2.alloc (.cells #[.int .i64 1, .int .i64 1, .int .i64 1, .int .i64 1] o)) (some ⟨w2.heap.size, 0, none⟩) 1 4 (cellsZ [1, 1, 1, 1]) := fun o => RowN.of_block (heap_alloc_new w2 _) rfl rfl
  have hr1 : ∀ o, Row8 (w2.alloc o) ao pay.length pay := fun o => (HOW.out.row.alloc o)
  have ht1 := fun o => take_any ao pay.length cap pay (some ⟨w2.heap.size, 0, none⟩) 4 4 [1, 1, 1, 1] (w2.alloc (.cells #[.int .i64 1, .int .i64 1, .int .i64 1, .int .i64 1] o)) (hr1 _) HOW.out.cap.1 HOW.out.cap.2 (hk1 o) (by decide) (fun z hz => .inl (by simpa using hz))
  have HT1 := Lib.hid ht1
  clear hk1 hr1 ht1
  go_wp2_with fail
  refine (HT1.out _).mono ?_
  rintro e w4 ⟨hb4, hn1, hy1⟩
  have HB4 := Lib.hid (below_then HB2.out (below_then (below_alloc (Below.refl _ _) _) hb4))
  have hd4 := ((below_then (below_alloc (Below.refl w2.heap.size w2) (.cells #[.int .i64 1, .int .i64 1, .int .i64 1, .int .i64 1] 3)) hb4).block D (Array.getElem?_eq_some_iff.1 HD2.out).1).trans HD2.out
  have HD4 := Lib.hid hd4
  have HB24 := Lib.hid hb4
  clear hb4 hd4 HT1
  obtain ⟨vs, av, nv, cv, ab, nb, cb, rfl, hpv, hov, hrb, hrl, hnb, hcb⟩ := hy1 _ _ HTK.out
  have hl4 := takeP_len _ _ _ _ _ HTK.out
  rw [← hpv, List.length_map] at hl4
  obtain ⟨v0, v1, v2, v3, rfl⟩ := list4 hl4
  obtain rfl : 4 = nv := hov.len
  obtain ⟨g, rfl, hgB, hgl, hc⟩ := hov.cells (by decide)
  have c0 : w4.cell? ⟨g, 1, none⟩ = some (.int .i64 v0.n) := (hc 0 v0 rfl).2.1
  have c1 : w4.cell? ⟨g, 6, none⟩ = some (.int .i64 v1.n) := (hc 1 v1 rfl).2.1
  have c2 : w4.cell? ⟨g, 11, none⟩ = some (.int .i64 v2.n) := (hc 2 v2 rfl).2.1
  have c3 : w4.cell? ⟨g, 16, none⟩ = some (.int .i64 v3.n) := (hc 3 v3 rfl).2.1
  subst hpv
  have hb : (1 ≤ v1.n ∧ v1.n ≤ 7) ∧ (1 ≤ v2.n ∧ v2.n ≤ 7) := by
    have : ¬ (v0.n < 1 ∨ 8 < v0.n ∨ v1.n < 1 ∨ 7 < v1.n ∨ v2.n < 1 ∨ 7 < v2.n) := HGOOD.out
    omega
  obtain ⟨⟨b3, b4⟩, b5, b6⟩ := hb
  obtain ⟨k0, n0, x0, s0, o0⟩ := v0
  have hkd : n0 = 5 := HKD.out
  subst hkd
  have hres2 : docEnd (docKind (pm0 5 v1.n v2.n v3.n) v r2) = res := HRES.out
  have HRES2 := Lib.hid hres2
  have HRB := Lib.hid hrb
  have hlo1 : w.heap.size ≤ w2.heap.size := HB2.out.size
  have HR4 := Lib.hid (HOW.out.row.below (below_then (below_alloc (Below.refl _ _) (.cells #[.int .i64 1, .int .i64 1, .int .i64 1, .int .i64 1] 3)) HB24.out))
  simp only at c0
  clear hn1 hy1 HGOOD HTK HKD HRES hres2 hov hrb hc hl4 hrl
  go_upto_region 7 with fail
  go_region_held3 (fun w' => w'.cell? ⟨g, 1, none⟩ = some (.int .i64 5) ∧ w'.cell? ⟨g, 6, none⟩ = some (.int .i64 v1.n) ∧ w'.cell? ⟨g, 11, none⟩ = some (.int .i64 v2.n) ∧ w'.cell? ⟨g, 16, none⟩ = some (.int .i64 v3.n)) (go_keep) (fail)
  rename_i hHeld
  clear hHeld
  obtain ⟨M, hM⟩ : ∃ M, M = w4.heap.size := ⟨_, rfl⟩
  obtain ⟨w5, hw5⟩ : ∃ w5, w5 = (w4.alloc (.cells (headM 5 v1.n v2.n v3.n).cs 28)).drew := ⟨_, rfl⟩
  have hb5 : Below w4.heap.size w4 w5 := hw5 ▸ (below_alloc (Below.refl _ _) _).drew
  have hm5 : w5.heap[M]? = some (.cells (headM 5 v1.n v2.n v3.n).cs 28 (0, 0)) := by rw [hw5, hM]; exact heap_alloc_new w4 _
  unfold headM Ms.cs at hw5
  simp only at hw5
  rw [← hw5, ← hM]
  have HM := Lib.hid hM
  have HB45 := Lib.hid hb5
  have HM5 := Lib.hid hm5
  have hDM : D < M := by have := (Array.getElem?_eq_some_iff.1 HD4.out).1; omega
  have hwM : w.heap.size ≤ M := by have := HB4.out.size; omega
  obtain ⟨m0, -⟩ := ms_cells hm5
  simp only [headM] at m0
  clear hw5 hb5 hm5 hM c0 c1 c2 c3 hgB hgl
  go_wp2_with fail
  refine (kinds_any 5 w5 (by decide)).mono ?_
  rintro e w6 ⟨ak, nk, ck, rfl, hks, hn6, hb6⟩
  have hks' : RowN w6 ak 1 nk (cellsZ [1, 1, 1, 1]) := hks
  have HB46 := Lib.hid (below_then HB45.out hb6)
  have ht2 := take_any ab nb cb r ak nk ck [1, 1, 1, 1] w6 (HRB.out _ (HR4.out.below HB46.out)) hnb hcb hks' (by omega) (fun z hz => by simp at hz; simp only [goodK]; omega)
  have HT2 := Lib.hid ht2
  have HM6 := Lib.hid ((hb6.block M (Array.getElem?_eq_some_iff.1 HM5.out).1).trans HM5.out)
  have hM6 : M < w6.heap.size := (Array.getElem?_eq_some_iff.1 HM6.out).1
  clear hks hks' hb6 ht2 m0 hn6 HM5
  go_wp2_with fail
  refine HT2.out.mono ?_
  rintro e w7 ⟨hb7, -, hy2⟩
  obtain ⟨us, au, nu, cu, ab2, nb2, cb2, rfl, hpv2, hov2, hrb2, hrl2, hnb2, hcb2⟩ := hy2 _ _ HTK2.out
  have HB47 := Lib.hid (below_then HB46.out hb7)
  have hm7 := (hb7.block M (Array.getElem?_eq_some_iff.1 HM6.out).1).trans HM6.out
  have hd7 := (HB47.out.block D (Array.getElem?_eq_some_iff.1 HD4.out).1).trans HD4.out
  have hb07 : Below w.heap.size w w7 := below_then HB4.out HB47.out
  have hl2 := takeP_len _ _ _ _ _ HTK2.out
  rw [← hpv2, List.length_map] at hl2
  obtain ⟨u0, u1, u2, u3, rfl⟩ := list4 hl2
  obtain rfl : 4 = nu := hov2.len
  obtain ⟨g2, rfl, hg2B, hg2l, hc2⟩ := hov2.cells (by decide)
  have d0 : w7.cell? ⟨g2, 1, none⟩ = some (.int .i64 u0.n) := (hc2 0 u0 rfl).2.1
  have d1 : w7.cell? ⟨g2, 6, none⟩ = some (.int .i64 u1.n) := (hc2 1 u1 rfl).2.1
  have d2 : w7.cell? ⟨g2, 11, none⟩ = some (.int .i64 u2.n) := (hc2 2 u2 rfl).2.1
  have d3 : w7.cell? ⟨g2, 16, none⟩ = some (.int .i64 u3.n) := (hc2 3 u3 rfl).2.1
  have hne : g2 ≠ M := by omega
  have hne' : M ≠ g2 := by omega
  subst hpv2
  obtain ⟨m0, m1, m2, m3, m4, m5, m6, m7, m8, m9, m10, m11, m12, m13⟩ := ms_cells hm7
  simp only [headM] at m0 m1 m2 m3 m4 m5 m6 m7 m8 m9 m10 m11 m12 m13
  clear m1 m2 m3
  have HB7 := Lib.hid hb07
  have HM7 := Lib.hid hm7
  have HD7 := Lib.hid hd7
  have HOV2 := Lib.hid hov2
  have HRB2 := Lib.hid hrb2
  have hM7 : M < w7.heap.size := (Array.getElem?_eq_some_iff.1 HM7.out).1
  have f4 : w7.frozen? ⟨M, 4, none⟩ = false := by simp [World.frozen?, HM7.out]
  have f5 : w7.frozen? ⟨M, 5, none⟩ = false := by simp [World.frozen?, HM7.out]
  have f6 : w7.frozen? ⟨M, 6, none⟩ = false := by simp [World.frozen?, HM7.out]
  clear hb7 hy2 hm7 hd7 hb07 hl2 hov2 hrb2 hc2 hg2B HT2 HTK2 HM6 HB46
  go_upto_region 23 with fail
  obtain ⟨w8, hw8⟩ : ∃ w8, w8 = (((w7.setCell ⟨M, 4, none⟩ (.int .i64 u0.n)).setCell ⟨M, 5, none⟩ (.int .i64 u1.n)).setCell ⟨M, 6, none⟩ (.int .i64 u2.n)) := ⟨_, rfl⟩
  have hm8 : w8.heap[M]? = some (.cells (entM v1.n v2.n v3.n u0.n u1.n u2.n none 0 0 []).cs 28 (0, 0)) := by rw [hw8]; exact (set_block (i := 6) (set_block (i := 5) (set_block (i := 4) HM7.out _) _) _)
  have ht8 : Touch [M] w7 w8 := by rw [hw8]; exact (touch_set ((touch_set ((touch_set (Touch.refl _ _) _ _ _ (by simp))) _ _ _ (by simp))) _ _ _ (by simp))
  rw [← hw8]
  have hs8 : w8.heap.size = w7.heap.size := by rw [hw8]; simp
  have e3 : w8.cell? ⟨g2, 16, none⟩ = some (.int .i64 u3.n) := (World.cell?_of_block (a := ⟨g2, 16, none⟩) (ht8.block g2 hg2l (by simp; omega))).trans d3
  have hd8 := (ht8.block D (Array.getElem?_eq_some_iff.1 HD7.out).1 (by simp; omega)).trans HD7.out
  have h5 : E5 w8 w8 M (entM v1.n v2.n v3.n u0.n u1.n u2.n none 0 0 []) := ⟨hm8, World.ownsRow_nil _ _ _ _, rfl, fun e he => (by cases he), Touch.refl _ _⟩
  have hb48 : Below w4.heap.size w4 w8 := below_of_touch HB47.out ht8 (Nat.le_of_eq HM.out.symm)
  have hres : docEnd (if u3.n < 0 ∨ 8 < u3.n then none else docEs u3.n.toNat (entM v1.n v2.n v3.n u0.n u1.n u2.n none 0 0 []).plain r2) = res := HRES2.out
  have HD8 := Lib.hid hd8
  have HB8 := Lib.hid (below_of_touch HB7.out ht8 hwM)
  have HB48 := Lib.hid hb48
  have H5 := Lib.hid h5
  have hM8 : M < w8.heap.size := by omega
  have hg28 : g2 < w8.heap.size := by omega
  have hD8 : D < w8.heap.size := by omega
  clear hw8 hm8 ht8 hd8 h5 hb48 hs8 hg2l hM7 m0 m4 m5 m6 m7 m8 m9 m10 m11 m12 m13 f4 f5 f6 d0 d1 d2 d3 HM7 HD7 HB7 HOV2 HRES2 HB47
  by_cases q1 : u3.n < 0
  · rw [if_pos (.inl q1)] at hres
    have HNN := Lib.hid (HNO.out hres.symm)
    clear hres
    go_upto_region 24 with fail
    go_wp2_with (first
      | (refine wpList_zeroM rfl rfl ?_)
      | (refine wpList_storeM rfl _ _ rfl D zeroM zeroM rfl rfl _ HD8.out ?_; intro wz hdz htz; have HDZ := Lib.hid hdz; have HTZ := Lib.hid htz; clear hdz htz))
    exact bodyPost_ret (results_cell_tmp Try.results17 rfl (load_msg HDZ.out)) rfl (HNN.out _ (below_of_touch HB8.out HTZ.out (Nat.le_of_eq HD.out.symm)))
  by_cases q2 : 8 < u3.n
  · rw [if_pos (.inr q2)] at hres
    have HNN := Lib.hid (HNO.out hres.symm)
    clear hres
    go_upto_region 24 with fail
    go_wp2_with (first
      | (refine wpList_zeroM rfl rfl ?_)
      | (refine wpList_storeM rfl _ _ rfl D zeroM zeroM rfl rfl _ HD8.out ?_; intro wz hdz htz; have HDZ := Lib.hid hdz; have HTZ := Lib.hid htz; clear hdz htz))
    exact bodyPost_ret (results_cell_tmp Try.results17 rfl (load_msg HDZ.out)) rfl (HNN.out _ (below_of_touch HB8.out HTZ.out (Nat.le_of_eq HD.out.symm)))
  rw [if_neg (by omega)] at hres
  obtain ⟨N, hN⟩ : ∃ N : Nat, u3.n = (N : Int) := ⟨u3.n.toNat, by omega⟩
  have hN8 : N ≤ 8 := by omega
  rw [hN] at e3
  rw [hN, Int.toNat_natCast] at hres
  have HRES := Lib.hid hres
  have HE3 := Lib.hid e3
  have q1' : ¬ (N : Int) < 0 := by omega
  have q2' : ¬ (8 : Int) < (N : Int) := by omega
  clear hres q1 q2 hN
  go_wp2_with fail
  clear e3 q1' q2'
  go_loopw [12, 14] (fun sv iv wr => ∃ (j : Nat) (rest : List UInt8) (ab3 : Option Addr) (nb3 cb3 : Nat) (ea : Option Addr) (ecap : Nat) (es : List En), iv = .int .i64 j ∧ j ≤ N ∧ sv = .slice ab3 nb3 cb3 ∧ Hid (∀ W, Row8 W ab nb r → Row8 W ab3 nb3 rest) ∧ Hid (rest.length = nb3) ∧ nb3 ≤ cb3 ∧ cb3 ≤ maxLen ∧
    Hid (docEnd (docEs (N - j) (entM v1.n v2.n v3.n u0.n u1.n u2.n ea j ecap es).plain rest) = res) ∧ Hid (E5 w8 wr M (entM v1.n v2.n v3.n u0.n u1.n u2.n ea j ecap es)) ∧ Hid (Below w4.heap.size w4 wr)) (fun _ iv _ => N - (intOf iv).toNat)
  case atStart => exact ⟨0, r2, ab2, nb2, cb2, none, 0, [], rfl, by omega, rfl, HRB2.out, hrl2, hnb2, hcb2, HRES.out, H5.out, HB48.out⟩
  case round =>
    obtain ⟨j, rest, ab3, nb3, cb3, ea, ecap, es, rfl, hj, rfl, HRB3, HRL3, hnb3, hcb3, HR3, HE5, HB4R⟩ := hrel
    have hgr := (HE5.out.touch.block g2 hg28 (by simp; omega))
    have e3 : wr.cell? ⟨g2, 16, none⟩ = some (.int .i64 (N : Int)) := (World.cell?_of_block (a := ⟨g2, 16, none⟩) hgr).trans HE3.out
    have HDR := Lib.hid ((HE5.out.touch.block D hD8 (by simp; omega)).trans HD8.out)
    have HBR := Lib.hid (below_of_touch HB8.out HE5.out.touch hwM)
    have hMr : M < wr.heap.size := HE5.out.lt
    have hsr : w8.heap.size ≤ wr.heap.size := HE5.out.touch.size
    clear hgr
    by_cases hlt : j < N
    · have hjN : (j : Int) < (N : Int) := by omega
      obtain ⟨k, hk⟩ : ∃ k, N - j = k + 1 := ⟨N - j - 1, by omega⟩
      have hr3 := HR3.out
      rw [hk, docEs] at hr3
      have ht3 := fun o => take_any ab3 nb3 cb3 rest (some ⟨wr.heap.size, 0, none⟩) 3 3 [1, 1, 3] (wr.alloc (.cells #[.int .i64 1, .int .i64 1, .int .i64 3] o)) (HRB3.out _ (HRB.out _ (HR4.out.below (below_then HB4R.out (below_alloc (Below.refl _ _) _))))) hnb3 hcb3 (RowN.of_block (heap_alloc_new wr _) rfl rfl) (by decide) (fun z hz => by simp at hz; simp only [goodK]; omega)
      have HT3 := Lib.hid ht3
      clear ht3
      go_wp2_with fail
      refine (HT3.out _).mono ?_
      rintro e wt ⟨hbt, hn3, hy3⟩
      have hbt' : Below wr.heap.size wr wt := below_then (below_alloc (Below.refl _ _) _) hbt
      have HDT := Lib.hid ((hbt'.block D (by omega)).trans HDR.out)
      have HBT := Lib.hid (below_then HBR.out hbt')
      have HB4T := Lib.hid (below_then HB4R.out hbt')
      have HET := Lib.hid (HE5.out.below hbt')
      have hwt : wr.heap.size ≤ wt.heap.size := hbt'.size
      clear hbt hbt' HT3 e3
      cases htp : takeP [1, 1, 3] rest [] with
      | none =>
        rw [htp] at hr3
        have HNN := Lib.hid (HNO.out hr3.symm)
        have he := hn3 htp
        subst he
        clear hr3 hn3 hy3 htp
        go_upto_region 30 with fail
        go_wp2_with (first
          | (refine wpList_zeroM rfl rfl ?_)
          | (refine wpList_storeM rfl _ _ rfl D zeroM zeroM rfl rfl _ HDT.out ?_; intro wz hdz htz; have HDZ := Lib.hid hdz; have HTZ := Lib.hid htz; clear hdz htz))
        exact bodyPost_ret (results_cell_tmp Try.results17 rfl (load_msg HDZ.out)) rfl (HNN.out _ (below_of_touch HBT.out HTZ.out (Nat.le_of_eq HD.out.symm)))
      | some pr =>
        obtain ⟨xs, r3⟩ := pr
        obtain ⟨xv, ax, nx, cx, ab4, nb4, cb4, rfl, hpv3, hov3, hrb4, hrl4, hnb4, hcb4⟩ := hy3 _ _ htp
        have hl3 := takeP_len _ _ _ _ _ htp
        rw [← hpv3, List.length_map] at hl3
        obtain ⟨x0, x1, x2, rfl⟩ := list3 hl3
        obtain rfl : 3 = nx := hov3.len
        obtain ⟨g3, rfl, hg3B, hg3l, hc3⟩ := hov3.cells (by decide)
        rw [World.size_alloc] at hg3B
        have p0 : wt.cell? ⟨g3, 1, none⟩ = some (.int .i64 x0.n) := (hc3 0 x0 rfl).2.1
        have p1 : wt.cell? ⟨g3, 6, none⟩ = some (.int .i64 x1.n) := (hc3 1 x1 rfl).2.1
        have p2 : wt.cell? ⟨g3, 13, none⟩ = some (.slice x2.s.a x2.s.len x2.s.cap) := (hc3 2 x2 rfl).2.2.2.1
        rw [htp, ← hpv3] at hr3
        have hr3' : docEnd (if x1.n < 0 ∨ 2 < x1.n then none else docEs k { (entM v1.n v2.n v3.n u0.n u1.n u2.n ea j ecap es).plain with es := (entM v1.n v2.n v3.n u0.n u1.n u2.n ea j ecap es).plain.es ++ [⟨wrap64 (wrap64 (u0.n + 1) + ((entM v1.n v2.n v3.n u0.n u1.n u2.n ea j ecap es).plain.es.length : Nat)), x0.n, x1.n, x2.s.bs⟩] } r3) = res := hr3
        have hox2 := (hov3.own x2 (by simp))
        rw [World.size_alloc] at hox2
        have HX2 := Lib.hid (hox2.more (base' := w8.heap.size) (by omega))
        have HRB4 := Lib.hid hrb4
        have HRL4 := Lib.hid hrl4
        clear hr3 hn3 hy3 htp hpv3 hl3 hov3 hc3 hox2 hrb4 hrl4
        by_cases y1 : x1.n < 0
        · rw [if_pos (.inl y1)] at hr3'
          have HNN := Lib.hid (HNO.out hr3'.symm)
          clear hr3'
          go_upto_region 30 with fail
          go_wp2_with (first
            | (refine wpList_zeroM rfl rfl ?_)
            | (refine wpList_storeM rfl _ _ rfl D zeroM zeroM rfl rfl _ HDT.out ?_; intro wz hdz htz; have HDZ := Lib.hid hdz; have HTZ := Lib.hid htz; clear hdz htz))
          exact bodyPost_ret (results_cell_tmp Try.results17 rfl (load_msg HDZ.out)) rfl (HNN.out _ (below_of_touch HBT.out HTZ.out (Nat.le_of_eq HD.out.symm)))
        by_cases y2 : 2 < x1.n
        · rw [if_pos (.inr y2)] at hr3'
          have HNN := Lib.hid (HNO.out hr3'.symm)
          clear hr3'
          go_upto_region 30 with fail
          go_wp2_with (first
            | (refine wpList_zeroM rfl rfl ?_)
            | (refine wpList_storeM rfl _ _ rfl D zeroM zeroM rfl rfl _ HDT.out ?_; intro wz hdz htz; have HDZ := Lib.hid hdz; have HTZ := Lib.hid htz; clear hdz htz))
          exact bodyPost_ret (results_cell_tmp Try.results17 rfl (load_msg HDZ.out)) rfl (HNN.out _ (below_of_touch HBT.out HTZ.out (Nat.le_of_eq HD.out.symm)))
        rw [if_neg (by omega)] at hr3'
        have HR4' := Lib.hid hr3'
        clear hr3'
        go_upto_region 32 with fail
        obtain ⟨-, -, -, -, t4, -, -, -, t8, -⟩ := ms_cells HET.out.cell
        simp only [entM] at t4 t8
        have hgM : g3 ≠ M := by omega
        have hMg : M ≠ g3 := by omega
        have hgt : g3 < wt.heap.size := hg3l
        have hMt : M < wt.heap.size := by omega
        have hel : es.length = j := HET.out.len
        have HEL := Lib.hid hel
        have hmid : ∀ (W w12 : World), W.grownBy w12 (Value.ownBlock (.slice ea j ecap)) → ∀ o : Obj, W.heap = (wt.alloc o).heap → (w12.cell? ⟨M, 4, none⟩ = some (.int .i64 u0.n) ∧ w12.cell? ⟨g3, 1, none⟩ = some (.int .i64 x0.n) ∧ w12.cell? ⟨g3, 6, none⟩ = some (.int .i64 x1.n) ∧ w12.cell? ⟨g3, 13, none⟩ = some (.slice x2.s.a x2.s.len x2.s.cap)) ∧ w12.cell? ⟨M, 8, none⟩ = some (.slice ea j ecap) ∧ w12.frozen? ⟨M, 8, none⟩ = false := by
          intro W w12 hg o hW
          obtain ⟨hk6, -, hM6⟩ := HET.out.mid (m := entM v1.n v2.n v3.n u0.n u1.n u2.n ea j ecap es) (by omega) hW hg
          obtain ⟨-, -, -, -, s4, -, -, -, s8, -⟩ := ms_cells hM6
          have hgk := hk6 g3 hgt (fun e => by
            have h1 := HET.out.row
            have h2 := (HE5.out.row.lt g3 e).2
            omega)
          exact ⟨⟨s4, (World.cell?_of_block (a := ⟨g3, 1, none⟩) hgk).trans p0, (World.cell?_of_block (a := ⟨g3, 6, none⟩) hgk).trans p1, (World.cell?_of_block (a := ⟨g3, 13, none⟩) hgk).trans p2⟩, s8, by simp [World.frozen?, hM6]⟩
        have HMID := Lib.hid hmid
        have hown : ∀ (W : World) (o : Obj), W.heap = (wt.alloc o).heap → W.ownsRow w8.heap.size 41 4 (.slice ea j ecap) j (es.flatMap En.cells) := fun W o hW => own_heap HET.out.row fun g hl => by rw [hW]; exact heap_alloc_old wt o hl
        have HOWN := Lib.hid hown
        have hrown : ∀ (W : World) (o : Array Value) (T : TypeId) (l : List Value), W.heap = (wt.alloc (.cells o T)).heap → l.length = 4 → o.toList.take 4 = l → RowN W (some ⟨wt.heap.size, 0, none⟩) 4 1 l := fun W o T l hW h4 hl => by
          refine RowN.of_block (b := wt.heap.size) (cs := o) (e := T) (fr := (0, 0)) ?_ (by rw [h4]) (by rw [h4]; exact hl)
          rw [hW]
          exact heap_alloc_new wt _
        have HROWN := Lib.hid hrown
        have hsa : ∀ (W : World) (o : Obj), W.heap = (wt.alloc o).heap → W.cell? ⟨M, 4, none⟩ = some (.int .i64 u0.n) ∧ W.cell? ⟨g3, 1, none⟩ = some (.int .i64 x0.n) ∧ W.cell? ⟨g3, 6, none⟩ = some (.int .i64 x1.n) ∧ W.cell? ⟨g3, 13, none⟩ = some (.slice x2.s.a x2.s.len x2.s.cap) := fun W o hW =>
          ⟨(World.cell?_of_block (a := ⟨M, 4, none⟩) (by rw [hW]; exact heap_alloc_old wt o hMt)).trans t4, (World.cell?_of_block (a := ⟨g3, 1, none⟩) (by rw [hW]; exact heap_alloc_old wt o hgt)).trans p0, (World.cell?_of_block (a := ⟨g3, 6, none⟩) (by rw [hW]; exact heap_alloc_old wt o hgt)).trans p1, (World.cell?_of_block (a := ⟨g3, 13, none⟩) (by rw [hW]; exact heap_alloc_old wt o hgt)).trans p2⟩
        have HSA := Lib.hid hsa
        have t8a : ∀ o, (wt.alloc o).cell? ⟨M, 8, none⟩ = some (.slice ea j ecap) := fun o => (World.cell?_of_block (a := ⟨M, 8, none⟩) (heap_alloc_old wt o hMt)).trans t8
        clear hmid hown hrown hel hsa
        refine wp_region_noPanic ?_
        refine wp_region_held_drew (S := fun w' => w'.cell? ⟨M, 4, none⟩ = some (.int .i64 u0.n) ∧ w'.cell? ⟨g3, 1, none⟩ = some (.int .i64 x0.n) ∧ w'.cell? ⟨g3, 6, none⟩ = some (.int .i64 x1.n) ∧ w'.cell? ⟨g3, 13, none⟩ = some (.slice x2.s.a x2.s.len x2.s.cap)) (by kernel_rfl) ⟨t4, p0, p1, p2⟩ (fun hHeld => ?_)
        refine wpAnyH_take (i := 0) (oi := { dst := some 202, op := .fieldAddr 28 (.tmp 10) 8, type := 0, pos := "ref.go:196", after := #[], guard := none }) (v := .pointer (some ⟨M, 8, none⟩)) rfl (by kernel_rfl) (by kernel_rfl) (by kernel_rfl) (fun _ _ _ h => h) (Or.inl ⟨by rfl, fun w hS => (by obtain ⟨hz4, hz1, hz6, hz13⟩ := hS; first | (go_simp; done) | (go_simp; exact wrap_is64 _))⟩) (by assumption) ?_
        simp only [Act.put, List.setIfInBounds_toArray, List.set_cons_zero, List.set_cons_succ]
        refine wpAnyH_take (i := 2) (oi := { dst := some 204, op := .fieldAddr 28 (.tmp 10) 4, type := 0, pos := "ref.go:196", after := #[], guard := none }) (v := .pointer (some ⟨M, 4, none⟩)) rfl (by kernel_rfl) (by kernel_rfl) (by kernel_rfl) (fun _ _ _ h => h) (Or.inl ⟨by rfl, fun w hS => (by obtain ⟨hz4, hz1, hz6, hz13⟩ := hS; first | (go_simp; done) | (go_simp; exact wrap_is64 _))⟩) (by assumption) ?_
        simp only [Act.put, List.setIfInBounds_toArray, List.set_cons_zero, List.set_cons_succ]
        refine wpAnyH_take (i := 3) (oi := { dst := some 205, op := .load 2 (.tmp 204), type := 2, pos := "ref.go:196", after := #[{ on := 2, ground := .data }], guard := none }) (v := .int .i64 u0.n) rfl (by kernel_rfl) (by kernel_rfl) (by kernel_rfl) (fun _ _ _ h => h) (Or.inl ⟨by rfl, fun w hS => (by obtain ⟨hz4, hz1, hz6, hz13⟩ := hS; first | (go_simp; done) | (go_simp; exact wrap_is64 _))⟩) (by assumption) ?_
        simp only [Act.put, List.setIfInBounds_toArray, List.set_cons_zero, List.set_cons_succ]
        refine wpAnyH_take (i := 4) (oi := { dst := some 206, op := .binOp .add 2 (.tmp 205) (.const (.int .i64 1)) 2, type := 2, pos := "ref.go:196", after := #[{ on := 3, ground := .data }], guard := none }) (v := .int .i64 (wrap64 (u0.n + 1))) rfl (by kernel_rfl) (by kernel_rfl) (by kernel_rfl) (fun _ _ _ h => h) (Or.inl ⟨by rfl, fun w hS => (by obtain ⟨hz4, hz1, hz6, hz13⟩ := hS; first | (go_simp; done) | (go_simp; exact wrap_is64 _))⟩) (by assumption) ?_
        simp only [Act.put, List.setIfInBounds_toArray, List.set_cons_zero, List.set_cons_succ]
        refine wpAnyH_take (i := 5) (oi := { dst := some 207, op := .move (.tmp 14), type := 2, pos := "ref.go:196", after := #[], guard := none }) (v := .int .i64 (j : Int)) rfl (by kernel_rfl) (by kernel_rfl) (by kernel_rfl) (fun _ _ _ h => h) (Or.inl ⟨by rfl, fun w hS => (by obtain ⟨hz4, hz1, hz6, hz13⟩ := hS; first | (go_simp; done) | (go_simp; exact wrap_is64 _))⟩) (by assumption) ?_
        simp only [Act.put, List.setIfInBounds_toArray, List.set_cons_zero, List.set_cons_succ]
        refine wpAnyH_take (i := 6) (oi := { dst := some 208, op := .binOp .add 2 (.tmp 206) (.tmp 207) 2, type := 2, pos := "ref.go:196", after := #[{ on := 4, ground := .data }, { on := 5, ground := .data }], guard := none }) (v := .int .i64 (wrap64 (wrap64 (u0.n + 1) + (j : Int)))) rfl (by kernel_rfl) (by kernel_rfl) (by kernel_rfl) (fun _ _ _ h => h) (Or.inl ⟨by rfl, fun w hS => (by obtain ⟨hz4, hz1, hz6, hz13⟩ := hS; first | (go_simp; done) | (go_simp; exact wrap_is64 _))⟩) (by assumption) ?_
        simp only [Act.put, List.setIfInBounds_toArray, List.set_cons_zero, List.set_cons_succ]
        refine wpAnyH_take (i := 7) (oi := { dst := some 209, op := .move (.tmp 15), type := 91, pos := "ref.go:196", after := #[], guard := none }) (v := .slice (some ⟨g3, 0, none⟩) 3 cx) rfl (by kernel_rfl) (by kernel_rfl) (by kernel_rfl) (fun _ _ _ h => h) (Or.inl ⟨by rfl, fun w hS => (by obtain ⟨hz4, hz1, hz6, hz13⟩ := hS; first | (go_simp; done) | (go_simp; exact wrap_is64 _))⟩) (by assumption) ?_
        simp only [Act.put, List.setIfInBounds_toArray, List.set_cons_zero, List.set_cons_succ]
        refine wpAnyH_take (i := 8) (oi := { dst := some 210, op := .indexAddr 91 (.tmp 209) (.const (.int .i64 0)), type := 0, pos := "ref.go:196", after := #[{ on := 7, ground := .data }], guard := none }) (v := .pointer (some ⟨g3, 0, none⟩)) rfl (by kernel_rfl) (by kernel_rfl) (by kernel_rfl) (fun _ _ _ h => h) (Or.inl ⟨by rfl, fun w hS => (by obtain ⟨hz4, hz1, hz6, hz13⟩ := hS; first | (go_simp; done) | (go_simp; exact wrap_is64 _))⟩) (by assumption) ?_
        simp only [Act.put, List.setIfInBounds_toArray, List.set_cons_zero, List.set_cons_succ]
        refine wpAnyH_take (i := 9) (oi := { dst := some 211, op := .fieldAddr 94 (.tmp 210) 1, type := 0, pos := "ref.go:196", after := #[{ on := 8, ground := .data }], guard := none }) (v := .pointer (some ⟨g3, 1, none⟩)) rfl (by kernel_rfl) (by kernel_rfl) (by kernel_rfl) (fun _ _ _ h => h) (Or.inl ⟨by rfl, fun w hS => (by obtain ⟨hz4, hz1, hz6, hz13⟩ := hS; first | (go_simp; done) | (go_simp; exact wrap_is64 _))⟩) (by assumption) ?_
        simp only [Act.put, List.setIfInBounds_toArray, List.set_cons_zero, List.set_cons_succ]
        refine wpAnyH_take (i := 10) (oi := { dst := some 212, op := .load 2 (.tmp 211), type := 2, pos := "ref.go:196", after := #[{ on := 9, ground := .data }], guard := none }) (v := .int .i64 x0.n) rfl (by kernel_rfl) (by kernel_rfl) (by kernel_rfl) (fun _ _ _ h => h) (Or.inl ⟨by rfl, fun w hS => (by obtain ⟨hz4, hz1, hz6, hz13⟩ := hS; first | (go_simp; done) | (go_simp; exact wrap_is64 _))⟩) (by assumption) ?_
        simp only [Act.put, List.setIfInBounds_toArray, List.set_cons_zero, List.set_cons_succ]
        refine wpAnyH_take (i := 11) (oi := { dst := some 213, op := .move (.tmp 15), type := 91, pos := "ref.go:196", after := #[], guard := none }) (v := .slice (some ⟨g3, 0, none⟩) 3 cx) rfl (by kernel_rfl) (by kernel_rfl) (by kernel_rfl) (fun _ _ _ h => h) (Or.inl ⟨by rfl, fun w hS => (by obtain ⟨hz4, hz1, hz6, hz13⟩ := hS; first | (go_simp; done) | (go_simp; exact wrap_is64 _))⟩) (by assumption) ?_
        simp only [Act.put, List.setIfInBounds_toArray, List.set_cons_zero, List.set_cons_succ]
        refine wpAnyH_take (i := 12) (oi := { dst := some 214, op := .indexAddr 91 (.tmp 213) (.const (.int .i64 1)), type := 0, pos := "ref.go:196", after := #[{ on := 11, ground := .data }], guard := none }) (v := .pointer (some ⟨g3, 5, none⟩)) rfl (by kernel_rfl) (by kernel_rfl) (by kernel_rfl) (fun _ _ _ h => h) (Or.inl ⟨by rfl, fun w hS => (by obtain ⟨hz4, hz1, hz6, hz13⟩ := hS; first | (go_simp; done) | (go_simp; exact wrap_is64 _))⟩) (by assumption) ?_
        simp only [Act.put, List.setIfInBounds_toArray, List.set_cons_zero, List.set_cons_succ]
        refine wpAnyH_take (i := 13) (oi := { dst := some 215, op := .fieldAddr 94 (.tmp 214) 1, type := 0, pos := "ref.go:196", after := #[{ on := 12, ground := .data }], guard := none }) (v := .pointer (some ⟨g3, 6, none⟩)) rfl (by kernel_rfl) (by kernel_rfl) (by kernel_rfl) (fun _ _ _ h => h) (Or.inl ⟨by rfl, fun w hS => (by obtain ⟨hz4, hz1, hz6, hz13⟩ := hS; first | (go_simp; done) | (go_simp; exact wrap_is64 _))⟩) (by assumption) ?_
        simp only [Act.put, List.setIfInBounds_toArray, List.set_cons_zero, List.set_cons_succ]
        refine wpAnyH_take (i := 14) (oi := { dst := some 216, op := .load 2 (.tmp 215), type := 2, pos := "ref.go:196", after := #[{ on := 13, ground := .data }], guard := none }) (v := .int .i64 x1.n) rfl (by kernel_rfl) (by kernel_rfl) (by kernel_rfl) (fun _ _ _ h => h) (Or.inl ⟨by rfl, fun w hS => (by obtain ⟨hz4, hz1, hz6, hz13⟩ := hS; first | (go_simp; done) | (go_simp; exact wrap_is64 _))⟩) (by assumption) ?_
        simp only [Act.put, List.setIfInBounds_toArray, List.set_cons_zero, List.set_cons_succ]
        refine wpAnyH_take (i := 15) (oi := { dst := some 217, op := .move (.tmp 15), type := 91, pos := "ref.go:196", after := #[], guard := none }) (v := .slice (some ⟨g3, 0, none⟩) 3 cx) rfl (by kernel_rfl) (by kernel_rfl) (by kernel_rfl) (fun _ _ _ h => h) (Or.inl ⟨by rfl, fun w hS => (by obtain ⟨hz4, hz1, hz6, hz13⟩ := hS; first | (go_simp; done) | (go_simp; exact wrap_is64 _))⟩) (by assumption) ?_
        simp only [Act.put, List.setIfInBounds_toArray, List.set_cons_zero, List.set_cons_succ]
        refine wpAnyH_take (i := 16) (oi := { dst := some 218, op := .indexAddr 91 (.tmp 217) (.const (.int .i64 2)), type := 0, pos := "ref.go:196", after := #[{ on := 15, ground := .data }], guard := none }) (v := .pointer (some ⟨g3, 10, none⟩)) rfl (by kernel_rfl) (by kernel_rfl) (by kernel_rfl) (fun _ _ _ h => h) (Or.inl ⟨by rfl, fun w hS => (by obtain ⟨hz4, hz1, hz6, hz13⟩ := hS; first | (go_simp; done) | (go_simp; exact wrap_is64 _))⟩) (by assumption) ?_
        simp only [Act.put, List.setIfInBounds_toArray, List.set_cons_zero, List.set_cons_succ]
        refine wpAnyH_take (i := 17) (oi := { dst := some 219, op := .fieldAddr 94 (.tmp 218) 3, type := 0, pos := "ref.go:196", after := #[{ on := 16, ground := .data }], guard := none }) (v := .pointer (some ⟨g3, 13, none⟩)) rfl (by kernel_rfl) (by kernel_rfl) (by kernel_rfl) (fun _ _ _ h => h) (Or.inl ⟨by rfl, fun w hS => (by obtain ⟨hz4, hz1, hz6, hz13⟩ := hS; first | (go_simp; done) | (go_simp; exact wrap_is64 _))⟩) (by assumption) ?_
        simp only [Act.put, List.setIfInBounds_toArray, List.set_cons_zero, List.set_cons_succ]
        refine wpAnyH_take (i := 18) (oi := { dst := some 220, op := .load 23 (.tmp 219), type := 23, pos := "ref.go:196", after := #[{ on := 17, ground := .data }], guard := none }) (v := .slice x2.s.a x2.s.len x2.s.cap) rfl (by kernel_rfl) (by kernel_rfl) (by kernel_rfl) (fun _ _ _ h => h) (Or.inl ⟨by rfl, fun w hS => (by obtain ⟨hz4, hz1, hz6, hz13⟩ := hS; first | (go_simp; done) | (go_simp; exact wrap_is64 _))⟩) (by assumption) ?_
        simp only [Act.put, List.setIfInBounds_toArray, List.set_cons_zero, List.set_cons_succ]
        refine wpAnyH_take (i := 19) (oi := { dst := some 221, op := .build 41 #[(0, .tmp 208), (1, .tmp 212), (2, .tmp 216), (3, .tmp 220)], type := 41, pos := "ref.go:196", after := #[{ on := 6, ground := .data }, { on := 10, ground := .data }, { on := 14, ground := .data }, { on := 18, ground := .data }], guard := none }) (v := .agg #[.int .i64 (wrap64 (wrap64 (u0.n + 1) + (j : Int))), .int .i64 x0.n, .int .i64 x1.n, .slice x2.s.a x2.s.len x2.s.cap]) rfl (by kernel_rfl) (by kernel_rfl) (by kernel_rfl) (fun _ _ _ h => h) (Or.inl ⟨by rfl, fun w hS => (by obtain ⟨hz4, hz1, hz6, hz13⟩ := hS; first | (go_simp; done) | (go_simp; exact wrap_is64 _))⟩) (by assumption) ?_
        simp only [Act.put, List.setIfInBounds_toArray, List.set_cons_zero, List.set_cons_succ]
        refine wpAnyH_ready (rs := [1, 20]) (by kernel_rfl) (by simp) ?_
        refine AllReadyH.cons (o := { dst := some 203, op := .load 22 (.tmp 202), type := 22, pos := "ref.go:196", after := #[{ on := 0, ground := .data }], guard := none }) rfl (fun K hK => ?_) ?_
        · go_simp
          refine hK.out _ _ (by assumption) (fun hHeld => ?_)
          clear hK K
          refine wpAnyH_ready (rs := [20]) (by kernel_rfl) (by simp) ?_
          refine AllReadyH.cons (o := { dst := some 222, op := .buildSlice 22 1 #[(0, .tmp 221)], type := 22, pos := "ref.go:196", after := #[{ on := 19, ground := .data }], guard := none }) rfl (fun K hK => ?_) AllReadyH.nil
          go_simp
          refine hK.out _ _ (HSA.out _ _ rfl) (fun hHeld => ?_)
          clear hK K
          refine wpAnyH_ready (rs := [21]) (by kernel_rfl) (by simp) ?_
          refine AllReadyH.cons (o := { dst := some 223, op := .call { callee := .builtin .append, args := #[.tmp 203, .tmp 222], argTypes := #[22, 22] }, type := 22, pos := "ref.go:196", after := #[{ on := 1, ground := .data }, { on := 20, ground := .data }], guard := none }) rfl (fun K hK => ?_) AllReadyH.nil
          refine step_appendE rfl (.tmp 203) (.tmp 222) rfl w8.heap.size ea j ecap (es.flatMap En.cells) rfl (HOWN.out _ _ rfl) (some ⟨wt.heap.size, 0, none⟩) 1 1 (En.cells ⟨wrap64 (wrap64 (u0.n + 1) + (j : Int)), x0.n, x1.n, x2.s⟩) rfl (HROWN.out _ _ _ _ rfl rfl rfl) (fun h => by cases h) (cells_one4 _) (by omega) (by show w8.heap.size ≤ (wt.alloc _).heap.size; rw [World.size_alloc]; omega) (j + 1) rfl ?_
          intro ao12 cap12 w12 hown12 hg12 hat12
          obtain ⟨hs12, s8, sf⟩ := HMID.out _ _ hg12 _ rfl
          have HOW12 := Lib.hid hown12
          have HG12 := Lib.hid hg12
          clear hown12 hg12 hat12
          refine hK.out _ _ hs12 (fun hHeld => ?_)
          clear hK K
          refine wpAnyH_take (i := 22) (oi := { dst := some 224, op := .fieldAddr 28 (.tmp 10) 8, type := 0, pos := "ref.go:196", after := #[{ on := 0, ground := .phase }, { on := 1, ground := .phase }, { on := 2, ground := .phase }, { on := 3, ground := .phase }, { on := 4, ground := .phase }, { on := 5, ground := .phase }, { on := 6, ground := .phase }, { on := 7, ground := .phase }, { on := 8, ground := .phase }, { on := 9, ground := .phase }, { on := 10, ground := .phase }, { on := 11, ground := .phase }, { on := 12, ground := .phase }, { on := 13, ground := .phase }, { on := 14, ground := .phase }, { on := 15, ground := .phase }, { on := 16, ground := .phase }, { on := 17, ground := .phase }, { on := 18, ground := .phase }, { on := 19, ground := .phase }, { on := 20, ground := .phase }, { on := 21, ground := .phase }], guard := none }) (v := .pointer (some ⟨M, 8, none⟩)) rfl (by kernel_rfl) (by kernel_rfl) (by kernel_rfl) (fun _ _ _ h => h) (Or.inl ⟨by rfl, fun w hS => (by obtain ⟨hz4, hz1, hz6, hz13⟩ := hS; first | (go_simp; done) | (go_simp; exact wrap_is64 _))⟩) (by assumption) ?_
          simp only [Act.put, List.setIfInBounds_toArray, List.set_cons_zero, List.set_cons_succ]
          refine wpAnyH_ready (rs := [23]) (by kernel_rfl) (by simp) ?_
          refine AllReadyH.cons (o := { dst := none, op := .store 22 (.tmp 224) (.tmp 223), type := 0, pos := "ref.go:196", after := #[{ on := 22, ground := .data }, { on := 21, ground := .data }, { on := 21, ground := .chain }, { on := 0, ground := .phase }, { on := 1, ground := .phase }, { on := 2, ground := .phase }, { on := 3, ground := .phase }, { on := 4, ground := .phase }, { on := 5, ground := .phase }, { on := 6, ground := .phase }, { on := 7, ground := .phase }, { on := 8, ground := .phase }, { on := 9, ground := .phase }, { on := 10, ground := .phase }, { on := 11, ground := .phase }, { on := 12, ground := .phase }, { on := 13, ground := .phase }, { on := 14, ground := .phase }, { on := 15, ground := .phase }, { on := 16, ground := .phase }, { on := 17, ground := .phase }, { on := 18, ground := .phase }, { on := 19, ground := .phase }, { on := 20, ground := .phase }, { on := 21, ground := .phase }], guard := none }) rfl (fun K hK => ?_) AllReadyH.nil
          obtain ⟨s4, s1, s6, s13⟩ := hs12
          go_simp
          refine hK.out _ _ ⟨?_, ?_, ?_, ?_⟩ (fun hHeld => ?_)
          · exact (World.cell?_setCell_other _ _ _ _ (fun e => by injection e with _ e2 _; cases e2)).trans s4
          · exact (World.cell?_setCell_far _ _ _ _ hMg).trans s1
          · exact (World.cell?_setCell_far _ _ _ _ hMg).trans s6
          · exact (World.cell?_setCell_far _ _ _ _ hMg).trans s13
          clear hK K hHeld
          refine wpAnyH_done (by kernel_rfl) ?_ _
          refine NoPanic.normal ?_
          try clear hHeld
          go_wp2_with fail
          go_roundw
          case rel =>
            have hk1 : N - (j + 1) = k := by omega
            have h5 := HET.out.grow (e := ⟨wrap64 (wrap64 (u0.n + 1) + (j : Int)), x0.n, x1.n, x2.s⟩) (by omega) HG12.out rfl ⟨rfl, rfl, rfl⟩ HOW12.out HX2.out
            refine ⟨j + 1, r3, ab4, nb4, cb4, ao12, cap12, es ++ [(⟨wrap64 (wrap64 (u0.n + 1) + (j : Int)), x0.n, x1.n, x2.s⟩ : En)], by go_num, by omega, rfl, (fun W h => HRB4.out W (HRB3.out W h)), HRL4.out, hnb4, hcb4, ?_, h5, below_of_touch HB48.out h5.touch (Nat.le_of_eq HM.out.symm)⟩
            show docEnd (docEs (N - (j + 1)) _ r3) = res
            rw [hk1, ← HR4'.out]
            have hpl : (entM v1.n v2.n v3.n u0.n u1.n u2.n ea j ecap es).plain.es.length = j := by show (es.map En.plain).length = j; rw [List.length_map, HEL.out]
            rw [hpl]
            exact congrArg (fun x => docEnd (docEs k x r3)) (more_plain (entM v1.n v2.n v3.n u0.n u1.n u2.n ea j ecap es) ao12 cap12 ⟨wrap64 (wrap64 (u0.n + 1) + (j : Int)), x0.n, x1.n, x2.s⟩)
          case measure => simp [intOf]; omega
        refine AllReadyH.cons (o := { dst := some 222, op := .buildSlice 22 1 #[(0, .tmp 221)], type := 22, pos := "ref.go:196", after := #[{ on := 19, ground := .data }], guard := none }) rfl (fun K hK => ?_) AllReadyH.nil
        go_simp
        refine hK.out _ _ (HSA.out _ _ rfl) (fun hHeld => ?_)
        clear hK K
        refine wpAnyH_ready (rs := [1]) (by kernel_rfl) (by simp) ?_
        refine AllReadyH.cons (o := { dst := some 203, op := .load 22 (.tmp 202), type := 22, pos := "ref.go:196", after := #[{ on := 0, ground := .data }], guard := none }) rfl (fun K hK => ?_) AllReadyH.nil
        go_simp
        refine hK.out _ _ (by assumption) (fun hHeld => ?_)
        clear hK K
        refine wpAnyH_ready (rs := [21]) (by kernel_rfl) (by simp) ?_
        refine AllReadyH.cons (o := { dst := some 223, op := .call { callee := .builtin .append, args := #[.tmp 203, .tmp 222], argTypes := #[22, 22] }, type := 22, pos := "ref.go:196", after := #[{ on := 1, ground := .data }, { on := 20, ground := .data }], guard := none }) rfl (fun K hK => ?_) AllReadyH.nil
        refine step_appendE rfl (.tmp 203) (.tmp 222) rfl w8.heap.size ea j ecap (es.flatMap En.cells) rfl (HOWN.out _ _ rfl) (some ⟨wt.heap.size, 0, none⟩) 1 1 (En.cells ⟨wrap64 (wrap64 (u0.n + 1) + (j : Int)), x0.n, x1.n, x2.s⟩) rfl (HROWN.out _ _ _ _ rfl rfl rfl) (fun h => by cases h) (cells_one4 _) (by omega) (by show w8.heap.size ≤ (wt.alloc _).heap.size; rw [World.size_alloc]; omega) (j + 1) rfl ?_
        intro ao12 cap12 w12 hown12 hg12 hat12
        obtain ⟨hs12, s8, sf⟩ := HMID.out _ _ hg12 _ rfl
        have HOW12 := Lib.hid hown12
        have HG12 := Lib.hid hg12
        clear hown12 hg12 hat12
        refine hK.out _ _ hs12 (fun hHeld => ?_)
        clear hK K
        refine wpAnyH_take (i := 22) (oi := { dst := some 224, op := .fieldAddr 28 (.tmp 10) 8, type := 0, pos := "ref.go:196", after := #[{ on := 0, ground := .phase }, { on := 1, ground := .phase }, { on := 2, ground := .phase }, { on := 3, ground := .phase }, { on := 4, ground := .phase }, { on := 5, ground := .phase }, { on := 6, ground := .phase }, { on := 7, ground := .phase }, { on := 8, ground := .phase }, { on := 9, ground := .phase }, { on := 10, ground := .phase }, { on := 11, ground := .phase }, { on := 12, ground := .phase }, { on := 13, ground := .phase }, { on := 14, ground := .phase }, { on := 15, ground := .phase }, { on := 16, ground := .phase }, { on := 17, ground := .phase }, { on := 18, ground := .phase }, { on := 19, ground := .phase }, { on := 20, ground := .phase }, { on := 21, ground := .phase }], guard := none }) (v := .pointer (some ⟨M, 8, none⟩)) rfl (by kernel_rfl) (by kernel_rfl) (by kernel_rfl) (fun _ _ _ h => h) (Or.inl ⟨by rfl, fun w hS => (by obtain ⟨hz4, hz1, hz6, hz13⟩ := hS; first | (go_simp; done) | (go_simp; exact wrap_is64 _))⟩) (by assumption) ?_
        simp only [Act.put, List.setIfInBounds_toArray, List.set_cons_zero, List.set_cons_succ]
        refine wpAnyH_ready (rs := [23]) (by kernel_rfl) (by simp) ?_
        refine AllReadyH.cons (o := { dst := none, op := .store 22 (.tmp 224) (.tmp 223), type := 0, pos := "ref.go:196", after := #[{ on := 22, ground := .data }, { on := 21, ground := .data }, { on := 21, ground := .chain }, { on := 0, ground := .phase }, { on := 1, ground := .phase }, { on := 2, ground := .phase }, { on := 3, ground := .phase }, { on := 4, ground := .phase }, { on := 5, ground := .phase }, { on := 6, ground := .phase }, { on := 7, ground := .phase }, { on := 8, ground := .phase }, { on := 9, ground := .phase }, { on := 10, ground := .phase }, { on := 11, ground := .phase }, { on := 12, ground := .phase }, { on := 13, ground := .phase }, { on := 14, ground := .phase }, { on := 15, ground := .phase }, { on := 16, ground := .phase }, { on := 17, ground := .phase }, { on := 18, ground := .phase }, { on := 19, ground := .phase }, { on := 20, ground := .phase }, { on := 21, ground := .phase }], guard := none }) rfl (fun K hK => ?_) AllReadyH.nil
        obtain ⟨s4, s1, s6, s13⟩ := hs12
        go_simp
        refine hK.out _ _ ⟨?_, ?_, ?_, ?_⟩ (fun hHeld => ?_)
        · exact (World.cell?_setCell_other _ _ _ _ (fun e => by injection e with _ e2 _; cases e2)).trans s4
        · exact (World.cell?_setCell_far _ _ _ _ hMg).trans s1
        · exact (World.cell?_setCell_far _ _ _ _ hMg).trans s6
        · exact (World.cell?_setCell_far _ _ _ _ hMg).trans s13
        clear hK K hHeld
        refine wpAnyH_done (by kernel_rfl) ?_ _
        refine NoPanic.normal ?_
        try clear hHeld
        go_wp2_with fail
        go_roundw
        case rel =>
          have hk1 : N - (j + 1) = k := by omega
          have h5 := HET.out.grow (e := ⟨wrap64 (wrap64 (u0.n + 1) + (j : Int)), x0.n, x1.n, x2.s⟩) (by omega) HG12.out rfl ⟨rfl, rfl, rfl⟩ HOW12.out HX2.out
          refine ⟨j + 1, r3, ab4, nb4, cb4, ao12, cap12, es ++ [(⟨wrap64 (wrap64 (u0.n + 1) + (j : Int)), x0.n, x1.n, x2.s⟩ : En)], by go_num, by omega, rfl, (fun W h => HRB4.out W (HRB3.out W h)), HRL4.out, hnb4, hcb4, ?_, h5, below_of_touch HB48.out h5.touch (Nat.le_of_eq HM.out.symm)⟩
          show docEnd (docEs (N - (j + 1)) _ r3) = res
          rw [hk1, ← HR4'.out]
          have hpl : (entM v1.n v2.n v3.n u0.n u1.n u2.n ea j ecap es).plain.es.length = j := by show (es.map En.plain).length = j; rw [List.length_map, HEL.out]
          rw [hpl]
          exact congrArg (fun x => docEnd (docEs k x r3)) (more_plain (entM v1.n v2.n v3.n u0.n u1.n u2.n ea j ecap es) ao12 cap12 ⟨wrap64 (wrap64 (u0.n + 1) + (j : Int)), x0.n, x1.n, x2.s⟩)
        case measure => simp [intOf]; omega
    · have hke : N - j = 0 := by omega
      have hjN : ¬ (j : Int) < (N : Int) := by omega
      have hr3 := HR3.out
      rw [hke, docEs] at hr3
      obtain ⟨m, hme⟩ : ∃ m : Ms, m = entM v1.n v2.n v3.n u0.n u1.n u2.n ea j ecap es := ⟨_, rfl⟩
      have hm8 := HE5.out.cell
      have hmap := HE5.out.ap
      have hrl3 := HRL3.out
      rw [← hme] at hm8 hmap hr3
      clear HD8 HB8
      have HM8 := Lib.hid hm8
      have HMAP := Lib.hid hmap
      have HRES8 := Lib.hid hr3
      have HD8 := HDR
      have HB8 := HBR
      clear hm8 hmap hr3 hme HE5 HDR HBR HRL3
      go_upto_region 50 with fail
      by_cases h0 : nb3 = 0
      · subst h0
        have hr2 : rest = [] := List.eq_nil_of_length_eq_zero hrl3
        subst hr2
        have hri := rright17_any m wr HMAP.out.ok HMAP.out.clen
        rw [rightM_plain HMAP.out.ok] at hri
        have hre : (if rightP m.plain = true then some m.plain else none) = res := HRES8.out
        cases hrp : rightP m.plain with
        | false =>
          rw [hrp] at hri hre
          have HNN := Lib.hid (HNO.out hre.symm)
          have HRI := Lib.hid hri
          clear hri hre hrp hrl3
          go_wp2_with (first
            | (refine wpList_loadM_want rfl _ rfl M m _ rfl HM8.out ?_))
          refine HRI.out.mono ?_
          rintro e w9 ⟨rfl, hb9⟩
          have HD9 := Lib.hid ((hb9.block D (Array.getElem?_eq_some_iff.1 HD8.out).1).trans HD8.out)
          have HB9 := Lib.hid (below_then HB8.out hb9)
          clear hb9
          go_upto_region 51 with fail
          go_wp2_with (first
            | (refine wpList_zeroM rfl rfl ?_)
            | (refine wpList_storeM rfl _ _ rfl D zeroM zeroM rfl rfl _ HD9.out ?_; intro wz hdz htz; have HDZ := Lib.hid hdz; have HTZ := Lib.hid htz; clear hdz htz))
          exact bodyPost_ret (results_cell_tmp Try.results17 rfl (load_msg HDZ.out)) rfl (HNN.out _ (below_of_touch HB9.out HTZ.out (Nat.le_of_eq HD.out.symm)))
        | true =>
          rw [hrp] at hri hre
          have HYY := Lib.hid (HYES.out _ hre.symm)
          have HRI := Lib.hid hri
          clear hri hre hrp hrl3
          go_wp2_with (first
            | (refine wpList_loadM_want rfl _ rfl M m _ rfl HM8.out ?_))
          refine HRI.out.mono ?_
          rintro e w9 ⟨rfl, hb9⟩
          have HD9 := Lib.hid ((hb9.block D (Array.getElem?_eq_some_iff.1 HD8.out).1).trans HD8.out)
          have HM9 := Lib.hid ((hb9.block M (Array.getElem?_eq_some_iff.1 HM8.out).1).trans HM8.out)
          have HB9 := Lib.hid (below_then HB8.out hb9)
          have HMAP9 := Lib.hid (HMAP.out.below hb9)
          clear hb9
          go_upto_region 52 with fail
          go_wp2_with (first
            | (refine wpList_loadM rfl _ rfl M m _ rfl HM9.out ?_)
            | (refine wpList_storeM rfl _ _ rfl D m zeroM rfl rfl _ HD9.out ?_; intro wz hdz htz; have HDZ := Lib.hid hdz; have HTZ := Lib.hid htz; clear hdz htz))
          exact bodyPost_ret (results_cell_tmp Try.results17 rfl (load_msg HDZ.out)) rfl (HYY.out m _ rfl (HMAP9.out.keep (w' := wz) fun g hg hl => HTZ.out.block g hl (by simp; omega)).ok HMAP9.out.clen (below_of_touch HB9.out HTZ.out (Nat.le_of_eq HD.out.symm)))
      · have hi : (0 : Int) < (nb3 : Int) := by omega
        have hre : res = none := by
          rw [← HRES8.out]
          cases rest with
          | nil => simp at hrl3; omega
          | cons x y => rfl
        have HNN := Lib.hid (HNO.out hre)
        clear h0 hre hrl3
        go_upto_region 51 with fail
        go_wp2_with (first
          | (refine wpList_zeroM rfl rfl ?_)
          | (refine wpList_storeM rfl _ _ rfl D zeroM zeroM rfl rfl _ HD8.out ?_; intro wz hdz htz; have HDZ := Lib.hid hdz; have HTZ := Lib.hid htz; clear hdz htz))
        exact bodyPost_ret (results_cell_tmp Try.results17 rfl (load_msg HDZ.out)) rfl (HNN.out _ (below_of_touch HB8.out HTZ.out (Nat.le_of_eq HD.out.symm)))

end Go.Proofs.Ytcejamblndilbaa
