/- MsgEncodes: the walk. -/
import Derived.Test.YtcejamblndilbaaQ10
import Derived.Test.YtcejamblndilbaaShape
namespace Go.Proofs.Ytcejamblndilbaa
open Go.RowKit

theorem enc_dec {w : World} {m : Ms} {bs : List UInt8} (hm : MsOk w m) (h : encOf m = (bs, 0)) : rightM m = true ∧ decP bs = some m.plain := by
  rw [encOf_plain hm] at h
  split at h
  · rename_i hr
    unfold Fr.framed at h
    split at h
    · rename_i hl
      injection h with h1 h2
      subst h1
      exact ⟨by rw [rightM_plain hm]; exact hr, decP_frame hr hl⟩
    · injection h with h1 h2; cases h2
  · injection h with h1 h2; cases h2
theorem enc_no {m : Ms} {bs : List UInt8} {code : Nat} (h : encOf m = (bs, code)) (hc : code ≠ 0) : bs = [] := by
  rw [encOf] at h
  split at h
  · unfold Fr.framed at h
    split at h
    · injection h with h1 h2; omega
    · injection h with h1 h2; exact h1.symm
  · injection h with h1 h2; exact h1.symm

theorem own_cells_ne {w : World} {B : Nat} {T : TypeId} {k n c g C n' : Nat} {xs : List Value} (h : w.ownsRow B T k (.slice (some ⟨g, 0, none⟩) n c) n' xs) {m : Ms} (hC : w.heap[C]? = some (.cells m.cs 28 (0, 0))) (hT : T ≠ 28) : g ≠ C := by
  rintro rfl
  rcases h.2 with ⟨hv, _⟩ | ⟨g', cp, cur, hv, _, hg, _⟩
  · cases hv
  · injection hv with h1 _
    injection h1 with h1
    injection h1 with h1
    subst h1
    rw [hC] at hg
    injection hg with hg
    injection hg with _ hg
    exact hT hg.symm
theorem set_keep {w : World} {g C i : Nat} {v : Value} {o : Obj} (h : w.heap[C]? = some o) (hne : g ≠ C) : (w.setCell ⟨g, i, none⟩ v).heap[C]? = some o := (heap_setCell_other w ⟨g, i, none⟩ C v (fun e => hne (by simpa using e.symm))).trans h

set_option maxRecDepth 100000 in
set_option maxHeartbeats 32000000 in
theorem msgEncodes_walk (m : Ms) (w : World) (hm : MsOk w m) (hcl : CLen m) :
    Calls Try.prog 3 #[.agg m.cs] w fun e w' => e = .returned (.bool true) ∧ Below w.heap.size w w' := by
  obtain ⟨post, hpost⟩ : ∃ post : Ending → World → Prop, post = fun e w' => e = .returned (.bool true) ∧ Below w.heap.size w w' := ⟨_, rfl⟩
  rw [← hpost]
  have hP : ∀ w', Below w.heap.size w w' → post (.returned (.bool true)) w' := fun w' h => by rw [hpost]; exact ⟨rfl, h⟩
  have HP := Lib.hid hP
  obtain ⟨X, hX⟩ : ∃ X, X = w.alloc (.cells m.cs 28) := ⟨_, rfl⟩
  have hXb : Below w.heap.size w X := hX ▸ below_alloc (Below.refl _ _) _
  have hXc : X.heap[w.heap.size]? = some (.cells m.cs 28 (0, 0)) := hX ▸ heap_alloc_new w _
  have hXl := (Array.getElem?_eq_some_iff.1 hXc).1
  have hbox : ∀ Z, Below X.heap.size X Z → Z.heap[w.heap.size]? = some (.cells m.cs 28 (0, 0)) := fun Z hZ => (hZ.block _ hXl).trans hXc
  obtain ⟨bs, code, hbc⟩ : ∃ bs code, encOf m = (bs, code) := ⟨_, _, rfl⟩
  obtain ⟨nb, hnb⟩ : ∃ nb, nb = bs.length := ⟨_, rfl⟩
  have henc := fun Z (hZ : Below X.heap.size X Z) => encode_any m Z (hm.below (below_then hXb hZ)) hcl
  have hrenc := fun Z (hZ : Below X.heap.size X Z) => rencode_any m Z (hm.below (below_then hXb hZ)) hcl
  rw [hbc] at henc hrenc
  simp only [← hnb] at henc hrenc
  have hright := fun Z (hZ : Below X.heap.size X Z) => mright_any m Z (hm.below (below_then hXb hZ)) hcl
  have hrright := fun Z (hZ : Below X.heap.size X Z) => rright17_any m Z (hm.below (below_then hXb hZ)) hcl
  have hequal : ∀ Z (hZ : Below X.heap.size X Z) (n : Ms), MsOk Z n → n.plain = m.plain → Calls Try.prog 16 #[.agg m.cs, .agg n.cs] Z (RetBox Z (.bool true)) := fun Z hZ n hn hp => by
    have := requal_any m n Z (hm.below (below_then hXb hZ)) hn hcl
    rwa [sameM_plain hp.symm] at this
  have hmp := hm.below hXb
  have HX := Lib.hid hX
  have HXB := Lib.hid hXb
  have HBOX := Lib.hid hbox
  have HENC := Lib.hid henc
  have HRENC := Lib.hid hrenc
  have HRI := Lib.hid hright
  have HRR := Lib.hid hrright
  have HEQ := Lib.hid hequal
  have HM := Lib.hid hmp
  have HBC := Lib.hid hbc
  have HNB := Lib.hid hnb
  clear hpost hP hX hXb hXc hXl hbox hbc hnb henc hrenc hright hrright hequal hmp hm hcl
  go_enter Try.func3, Try.ntmps3
  go_upto_region 1 with fail
  rw [← HX.out]
  go_wp2_with fail
  refine (alive17_any X).mono ?_
  rintro e w1 ⟨rfl, hb1⟩
  have HB1 := Lib.hid hb1
  clear hb1
  go_upto_region 3 with fail
  go_wp2_with (first
    | (refine wpList_loadM rfl _ rfl w.heap.size m _ rfl (HBOX.out _ HB1.out) ?_))
  refine (HENC.out _ HB1.out).mono ?_
  rintro e w2 ⟨a2, c2, rfl, hown2, hb2⟩
  have HB2 := Lib.hid (below_then HB1.out hb2)
  have HO2 := Lib.hid hown2
  clear hb2 hown2
  go_upto_region 4 with fail
  go_wp2_with (first
    | (refine wpList_loadM rfl _ rfl w.heap.size m _ rfl (HBOX.out _ HB2.out) ?_))
  refine (HRENC.out _ HB2.out).mono ?_
  rintro e w3 ⟨a3, n3, c3, rfl, hown3, hb3⟩
  have HB3 := Lib.hid (below_then HB2.out hb3)
  have HO23 := Lib.hid (HO2.out.below hb3 (Nat.le_refl _))
  have HO3 := Lib.hid hown3
  clear hb3 hown3 HRENC
  have hcm2 := HO23.out.cap
  have hcm3 := HO3.out.cap
  have hsb : ∀ Z, Below w3.heap.size w3 Z → Calls Try.prog 12 #[.slice a2 nb c2, .slice a3 n3 c3] Z (fun e w' => e = .returned (.bool true) ∧ Below w3.heap.size w3 w') := fun Z hZ => by
    have h := same_any a2 a3 nb n3 c2 c3 bs bs Z (HO23.out.row.below hZ) (HO3.out.row.below hZ) (by omega) (by omega)
    rw [decide_eq_true rfl] at h
    exact h.mono fun e w' h => ⟨h.1, by obtain ⟨q, hq⟩ := h.2; rw [hq]; exact below_drewN hZ q⟩
  have hri : ∀ Z, Below w3.heap.size w3 Z → Calls Try.prog 13 #[.agg m.cs] Z (fun e w' => e = .returned (.bool (rightM m)) ∧ Below w3.heap.size w3 w') := fun Z hZ => (HRI.out Z (below_then HB3.out hZ)).mono fun e w' h => ⟨h.1, below_then hZ h.2⟩
  have hrr : ∀ Z, Below w3.heap.size w3 Z → Calls Try.prog 14 #[.agg m.cs] Z (fun e w' => e = .returned (.bool (rightM m)) ∧ Below w3.heap.size w3 w') := fun Z hZ => (HRR.out Z (below_then HB3.out hZ)).mono fun e w' h => ⟨h.1, below_then hZ h.2⟩
  have hS : ∀ Z, Below w3.heap.size w3 Z → (Z.cell? ⟨w.heap.size, 0, none⟩ = some (.int .i64 m.kind) ∧ Z.cell? ⟨w.heap.size, 1, none⟩ = some (.int .i64 m.fr) ∧ Z.cell? ⟨w.heap.size, 2, none⟩ = some (.int .i64 m.to) ∧ Z.cell? ⟨w.heap.size, 3, none⟩ = some (.int .i64 m.term) ∧ Z.cell? ⟨w.heap.size, 4, none⟩ = some (.int .i64 m.index) ∧ Z.cell? ⟨w.heap.size, 5, none⟩ = some (.int .i64 m.logTerm) ∧ Z.cell? ⟨w.heap.size, 6, none⟩ = some (.int .i64 m.commit) ∧ Z.cell? ⟨w.heap.size, 7, none⟩ = some (.bool m.ok) ∧ Z.cell? ⟨w.heap.size, 8, none⟩ = some (.slice m.ea m.en m.ecap) ∧ Z.cell? ⟨w.heap.size, 9, none⟩ = some (.int .i64 m.off) ∧ Z.cell? ⟨w.heap.size, 10, none⟩ = some (.slice m.d.a m.d.len m.d.cap) ∧ Z.cell? ⟨w.heap.size, 11, none⟩ = some (.bool m.last) ∧ Z.cell? ⟨w.heap.size, 12, none⟩ = some (.slice m.c.v.a m.c.v.len m.c.v.cap) ∧ Z.cell? ⟨w.heap.size, 13, none⟩ = some (.slice m.c.l.a m.c.l.len m.c.l.cap)) := fun Z hZ => ms_cells (HBOX.out _ (below_then HB3.out hZ))
  obtain ⟨rm, erm⟩ : ∃ rm, rm = rightM m := ⟨_, rfl⟩
  rw [← erm] at hri hrr
  have HSS := Lib.hid hS
  have HSB := Lib.hid hsb
  have HRI3 := Lib.hid hri
  have HRR3 := Lib.hid hrr
  have ERM := Lib.hid erm
  have HY0 := Lib.hid (Below.refl w3.heap.size w3).drew
  have hcc : ((code : Int) != (code : Int)) = false := by simp
  have hrmm : (rm != rm) = false := by simp
  clear hS hsb hri hrr erm hcm2 hcm3
  go_upto_region 5 with fail
  go_region_held3 (fun Z => Z.cell? ⟨w.heap.size, 0, none⟩ = some (.int .i64 m.kind) ∧ Z.cell? ⟨w.heap.size, 1, none⟩ = some (.int .i64 m.fr) ∧ Z.cell? ⟨w.heap.size, 2, none⟩ = some (.int .i64 m.to) ∧ Z.cell? ⟨w.heap.size, 3, none⟩ = some (.int .i64 m.term) ∧ Z.cell? ⟨w.heap.size, 4, none⟩ = some (.int .i64 m.index) ∧ Z.cell? ⟨w.heap.size, 5, none⟩ = some (.int .i64 m.logTerm) ∧ Z.cell? ⟨w.heap.size, 6, none⟩ = some (.int .i64 m.commit) ∧ Z.cell? ⟨w.heap.size, 7, none⟩ = some (.bool m.ok) ∧ Z.cell? ⟨w.heap.size, 8, none⟩ = some (.slice m.ea m.en m.ecap) ∧ Z.cell? ⟨w.heap.size, 9, none⟩ = some (.int .i64 m.off) ∧ Z.cell? ⟨w.heap.size, 10, none⟩ = some (.slice m.d.a m.d.len m.d.cap) ∧ Z.cell? ⟨w.heap.size, 11, none⟩ = some (.bool m.last) ∧ Z.cell? ⟨w.heap.size, 12, none⟩ = some (.slice m.c.v.a m.c.v.len m.c.v.cap) ∧ Z.cell? ⟨w.heap.size, 13, none⟩ = some (.slice m.c.l.a m.c.l.len m.c.l.cap))
    (first | exact HSS.out _ HYC.out | exact HSS.out _ HYB.out | exact HSS.out _ HYA.out | exact HSS.out _ HY0.out | go_keep)
    (first
      | (go_at_call 14; refine (HRR3.out _ HYB.out).mono ?_; rintro e y3 ⟨rfl, hb⟩; have HYC := Lib.hid hb; clear hb)
      | (go_at_call 13; refine (HRI3.out _ HYA.out).mono ?_; rintro e y2 ⟨rfl, hb⟩; have HYB := Lib.hid hb; clear hb)
      | (go_at_call 12; refine (HSB.out _ HY0.out).mono ?_; rintro e y1 ⟨rfl, hb⟩; have HYA := Lib.hid hb; clear hb))
  have HB4 := Lib.hid (below_then HB3.out HYC.out)
  have HO4 := Lib.hid (HO23.out.below HYC.out (Nat.le_refl _))
  clear HO23 HO3 HY0 HYA HYB HYC HSS HSB HRI3 HRR3 HRI HRR HO2
  by_cases hc : code ≠ 0
  · have hbs := enc_no HBC.out hc
    have hn0 : nb = 0 := by rw [HNB.out, hbs]; rfl
    subst hn0
    have hc' : ((code : Int) != 0) = true := by simp; omega
    clear hbs hc
    go_wp2_with fail
    exact HP.out _ (below_then HXB.out HB4.out)
  have hc0 : code = 0 := by omega
  subst hc0
  clear hc
  obtain ⟨hrm, hdp⟩ := enc_dec HM.out HBC.out
  have hcap4 := HO4.out.cap
  have hdec := decode_any a2 nb c2 bs y3 HO4.out.row (by omega) (by omega)
  have HDEC := Lib.hid hdec
  have HDP := Lib.hid hdp
  clear hdec hrm hdp hcap4 hcc hrmm HBC ERM
  go_wp2_with fail
  refine HDEC.out.mono ?_
  rintro e w5 ⟨n, rfl, hpl, hmo, hb5⟩
  rw [HDP.out] at hpl ⊢
  rw [if_neg (by simp)]
  have HPL := Lib.hid (show n.plain = m.plain from hpl)
  have HMO := Lib.hid hmo
  have HB5 := Lib.hid hb5
  clear hpl hmo hb5
  go_upto_region 10 with (first
    | (refine wpList_storeM rfl _ _ rfl w5.heap.size n zeroM rfl rfl _ (heap_alloc_new w5 _) ?_; intro w6 hd6 ht6; have HD6 := Lib.hid hd6; have HT6 := Lib.hid ht6; clear hd6 ht6))
  have hb6 : Below y3.heap.size y3 w6 := below_of_touch (below_then HB5.out (below_alloc (Below.refl _ _) _)) HT6.out HB5.out.size
  have hmo6 : MOwn w6 y3.heap.size n := HMO.out.keep fun g _ hl => (HT6.out.block g (by rw [World.size_alloc]; omega) (by simp; omega)).trans (heap_alloc_old _ _ hl)
  have hbX6 : Below X.heap.size X w6 := below_then HB4.out hb6
  have heq6 := HEQ.out w6 hbX6 n hmo6.ok HPL.out
  obtain ⟨a0, a1, a2', a3', a4, a5, a6, a7, a8, a9, a10, a11, a12, a13⟩ := ms_cells (HBOX.out _ hbX6)
  obtain ⟨b0, b1, b2, b3, b4, b5, b6, b7, b8, b9, b10, b11, b12, b13⟩ := ms_cells HD6.out
  have HB6 := Lib.hid hb6
  have HMO6 := Lib.hid hmo6
  have HEQ6 := Lib.hid heq6
  clear hb6 hmo6 hbX6 heq6 HT6 HMO
  go_wp2_with fail
  refine HEQ6.out.mono ?_
  rintro e w7 ⟨rfl, hb7⟩
  have hd7 := (hb7.block _ (Array.getElem?_eq_some_iff.1 HD6.out).1).trans HD6.out
  have hsh : MShape w7 y3.heap.size n := (HMO6.out.keep fun g _ hl => hb7.block g hl).shape
  have HC7 := Lib.hid hd7
  have HS7 := Lib.hid hsh
  have HB7 := Lib.hid (below_then HB6.out hb7)
  have hdl7 : n.d.len ≤ 9223372036854775807 := by have := (HMO6.out.data).cap; simp only [maxLen] at this; omega
  have hel7 : n.en ≤ 9223372036854775807 := by have := HMO6.out.ok.ecap; simp only [maxLen] at this; omega
  have hvl7 : n.c.v.len ≤ 9223372036854775807 := (own_len HMO6.out).1
  have hCB5 := HB5.out.size
  clear hd7 hsh hb7 HEQ6 HMO6 HD6 HB5 a0 a1 a2' a3' a4 a5 a6 a7 a8 a9 a10 a11 a12 a13
  clear b0 b1 b2 b3 b4 b5 b6 b7 b8 b9 b10 b11 b12 b13
  obtain ⟨C, hC⟩ : ∃ C, C = w5.heap.size := ⟨_, rfl⟩
  rw [← hC] at HC7 hCB5 ⊢
  have hCB : y3.heap.size ≤ C := hCB5
  have HCB := Lib.hid hCB
  clear hC hCB hCB5
  obtain ⟨b0, b1, b2, b3, b4, b5, b6, b7, b8, b9, b10, b11, b12, b13⟩ := ms_cells HC7.out
  go_upto_region 13 with fail
  clear b0 b1 b2 b3 b4 b5 b6 b7 b8 b9 b10 b11 b12 b13
  have HW := Lib.hid HB4
  go_loopw [66] (fun i wr => ∃ k : Nat, k ≤ n.d.len ∧ i = .int .i64 k ∧ Hid (MShape wr y3.heap.size n) ∧ Hid (wr.heap[C]? = some (.cells n.cs 28 (0, 0))) ∧ Hid (Below y3.heap.size y3 wr)) (fun i _ => n.d.len - (intOf i).toNat)
  case atStart => exact ⟨0, Nat.zero_le _, rfl, HS7, HC7, HB7⟩
  case round =>
  obtain ⟨k, hk, rfl, HS, HC, HB⟩ := hrel
  obtain ⟨b0, b1, b2, b3, b4, b5, b6, b7, b8, b9, b10, b11, b12, b13⟩ := ms_cells HC.out
  clear b0 b1 b2 b3 b4 b5 b6 b7 b9 b11 b13
  by_cases hlt : k < n.d.len
  · obtain ⟨db, hdo⟩ := HS.out.data
    obtain ⟨g, hga, hg1, hg2⟩ := hdo.addr (by omega)
    rw [hga] at hdo b10
    obtain ⟨c, hc, hcb, hcell, hfr⟩ := hdo.at k hlt
    have hkn : (k : Int) < (n.d.len : Int) := by omega
    have hk0 : (0 : Int) ≤ (k : Int) := by omega
    have hnat : ((k : Int)).toNat = k := by omega
    have hsh : MShape (wr.setCell ⟨g, k, none⟩ (.int .u8 99)) y3.heap.size n := HS.out.store8 hdo k 99
    have hcc : (wr.setCell ⟨g, k, none⟩ (.int .u8 99)).heap[C]? = some (.cells n.cs 28 (0, 0)) := set_keep HC.out (own_cells_ne hdo HC.out (by decide))
    have hbb : Below y3.heap.size y3 (wr.setCell ⟨g, k, none⟩ (.int .u8 99)) := HB.out.setCell (by show y3.heap.size ≤ g; exact hg1) _
    have HSH := Lib.hid hsh
    have HCC := Lib.hid hcc
    have HBB := Lib.hid hbb
    clear hsh hcc hbb hdo hga hcb b8 b12
    go_wp2_with fail
    go_roundw
    case rel => exact ⟨k + 1, by omega, by go_num, HSH, HCC, HBB⟩
    case measure => simp [intOf]; omega
  clear b10 b12 HS7 HC7 HB7 HB6
  go_wp2_with fail
  clear b8 hlt hk
  go_loopw [77] (fun i wr => ∃ k : Nat, k ≤ n.en ∧ i = .int .i64 k ∧ Hid (MShape wr y3.heap.size n) ∧ Hid (wr.heap[C]? = some (.cells n.cs 28 (0, 0))) ∧ Hid (Below y3.heap.size y3 wr)) (fun i _ => n.en - (intOf i).toNat)
  case atStart => exact ⟨0, Nat.zero_le _, rfl, HS, HC, HB⟩
  case round =>
  clear HS HC HB
  obtain ⟨i, hi, rfl, HS, HC, HB⟩ := hrel
  obtain ⟨b0, b1, b2, b3, b4, b5, b6, b7, b8, b9, b10, b11, b12, b13⟩ := ms_cells HC.out
  clear b0 b1 b2 b3 b4 b5 b6 b7 b9 b10 b11 b13
  by_cases hlt : i < n.en
  · obtain ⟨en1, hen1⟩ : ∃ e, n.es[i]? = some e := ⟨_, List.getElem?_eq_getElem (by rw [HS.out.len]; exact hlt)⟩
    have hem := List.mem_of_getElem? hen1
    obtain ⟨be, oe, hea, e0, e1, e2, e3⟩ := en_at (RowN.of_own HS.out.row) HS.out.len i hlt en1 hen1
    rw [hea] at b8
    have hin : (i : Int) < (n.en : Int) := by omega
    have hi0 : (0 : Int) ≤ (i : Int) := by omega
    have hinat : ((i : Int)).toNat = i := by omega
    obtain ⟨eb0, heb0⟩ := HS.out.ents en1 hem
    have hsl : en1.s.len ≤ 9223372036854775807 := by have := heb0.cap; simp only [maxLen] at this; omega
    have HEA := Lib.hid hea
    have HEN := Lib.hid hen1
    have HEM := Lib.hid hem
    clear hea hen1 hem heb0 eb0 e0 e1 e2 b12
    go_wp2_with fail
    clear e3 b8
    go_loopw [87] (fun j wr => ∃ k : Nat, k ≤ en1.s.len ∧ j = .int .i64 k ∧ Hid (MShape wr y3.heap.size n) ∧ Hid (wr.heap[C]? = some (.cells n.cs 28 (0, 0))) ∧ Hid (Below y3.heap.size y3 wr)) (fun j _ => en1.s.len - (intOf j).toNat)
    case atStart => exact ⟨0, Nat.zero_le _, rfl, HS, HC, HB⟩
    case round =>
    clear HS HC HB
    obtain ⟨k, hk, rfl, HS, HC, HB⟩ := hrel
    obtain ⟨b0, b1, b2, b3, b4, b5, b6, b7, b8, b9, b10, b11, b12, b13⟩ := ms_cells HC.out
    clear b0 b1 b2 b3 b4 b5 b6 b7 b9 b10 b11 b12 b13
    by_cases hkl : k < en1.s.len
    · obtain ⟨be2, oe2, hea2, e0, e1, e2, e3⟩ := en_at (RowN.of_own HS.out.row) HS.out.len i hlt en1 HEN.out
      rw [HEA.out] at hea2 b8
      simp only [Option.some.injEq, Addr.mk.injEq, and_true] at hea2
      obtain ⟨rfl, rfl⟩ := hea2
      obtain ⟨db, hdo⟩ := HS.out.ents en1 HEM.out
      obtain ⟨g, hga, hg1, hg2⟩ := hdo.addr (by omega)
      rw [hga] at hdo e3
      obtain ⟨c, hc, hcb, hcell, hfr⟩ := hdo.at k hkl
      have hkn : (k : Int) < (en1.s.len : Int) := by omega
      have hk0 : (0 : Int) ≤ (k : Int) := by omega
      have hnat : ((k : Int)).toNat = k := by omega
      have hsh : MShape (wr.setCell ⟨g, k, none⟩ (.int .u8 99)) y3.heap.size n := HS.out.store8 hdo k 99
      have hcc : (wr.setCell ⟨g, k, none⟩ (.int .u8 99)).heap[C]? = some (.cells n.cs 28 (0, 0)) := set_keep HC.out (own_cells_ne hdo HC.out (by decide))
      have hbb : Below y3.heap.size y3 (wr.setCell ⟨g, k, none⟩ (.int .u8 99)) := HB.out.setCell (by show y3.heap.size ≤ g; exact hg1) _
      have HSH := Lib.hid hsh
      have HCC := Lib.hid hcc
      have HBB := Lib.hid hbb
      clear hsh hcc hbb hdo hga hcb e0 e1 e2
      go_wp2_with fail
      go_roundw
      case rel => exact ⟨k + 1, by omega, by go_num, HSH, HCC, HBB⟩
      case measure => simp [intOf]; omega
    clear b8
    go_wp2_with fail
    go_roundw
    case rel => exact ⟨i + 1, by omega, by go_num, HS, HC, HB⟩
    case measure => simp [intOf]; omega
  clear b8
  go_wp2_with fail
  clear b12 hlt hi
  go_loopw [104] (fun j wr => ∃ k : Nat, k ≤ n.c.v.len ∧ j = .int .i64 k ∧ Hid (MShape wr y3.heap.size n) ∧ Hid (wr.heap[C]? = some (.cells n.cs 28 (0, 0))) ∧ Hid (Below y3.heap.size y3 wr)) (fun j _ => n.c.v.len - (intOf j).toNat)
  case atStart => exact ⟨0, Nat.zero_le _, rfl, HS, HC, HB⟩
  case round =>
  clear HS HC HB
  obtain ⟨k, hk, rfl, HS, HC, HB⟩ := hrel
  obtain ⟨b0, b1, b2, b3, b4, b5, b6, b7, b8, b9, b10, b11, b12, b13⟩ := ms_cells HC.out
  clear b0 b1 b2 b3 b4 b5 b6 b7 b8 b9 b10 b11 b13
  by_cases hlt : k < n.c.v.len
  · obtain ⟨zs, hdo⟩ := HS.out.cv
    obtain ⟨g, off, z, hga, hzk, hcell⟩ := cellZ_at (RowN.of_own hdo) k hlt
    simp only at hga
    rcases hdo.2 with ⟨hv, h0⟩ | ⟨g', cp, cur, hv, hg1, _⟩
    · simp only at h0; omega
    simp only [Value.slice.injEq, true_and] at hv
    obtain ⟨hv1, rfl⟩ := hv
    rw [hga] at hv1
    simp only [Option.some.injEq, Addr.mk.injEq, and_true] at hv1
    obtain ⟨rfl, rfl⟩ := hv1
    rw [Nat.zero_add] at hcell
    rw [hga] at hdo b12
    have hfr : wr.frozen? ⟨g, k, none⟩ = false := World.ownsRow.frozenAt hdo k
    have hkn : (k : Int) < (n.c.v.len : Int) := by omega
    have hk0 : (0 : Int) ≤ (k : Int) := by omega
    have hnat : ((k : Int)).toNat = k := by omega
    have hsh : MShape (wr.setCell ⟨g, k, none⟩ (.int .i64 99)) y3.heap.size n := HS.out.storeZ hdo k 99
    have hcc : (wr.setCell ⟨g, k, none⟩ (.int .i64 99)).heap[C]? = some (.cells n.cs 28 (0, 0)) := set_keep HC.out (own_cells_ne hdo HC.out (by decide))
    have hbb : Below y3.heap.size y3 (wr.setCell ⟨g, k, none⟩ (.int .i64 99)) := HB.out.setCell (by show y3.heap.size ≤ g; exact hg1) _
    have HSH := Lib.hid hsh
    have HCC := Lib.hid hcc
    have HBB := Lib.hid hbb
    clear hsh hcc hbb hdo hga hzk
    go_wp2_with fail
    go_roundw
    case rel => exact ⟨k + 1, by omega, by go_num, HSH, HCC, HBB⟩
    case measure => simp [intOf]; omega
  clear b12 HS HC
  go_upto_region 31 with fail
  clear hlt hk
  have hcap4 := HO4.out.cap
  have hdec2 := decode_any a2 nb c2 bs wr (HO4.out.below HB.out (Nat.le_refl _)).row (by omega) (by omega)
  have HDEC2 := Lib.hid hdec2
  clear hdec2 hcap4 HDEC HPL
  go_wp2_with fail
  refine HDEC2.out.mono ?_
  rintro e w8 ⟨x, rfl, hpl, hmo, hb8⟩
  rw [HDP.out] at hpl ⊢
  rw [if_neg (by simp)]
  have HPX := Lib.hid (show x.plain = m.plain from hpl)
  have HMX := Lib.hid hmo
  have HB8 := Lib.hid (below_then HB.out hb8)
  clear hpl hmo hb8 HDEC2
  go_upto_region 32 with (first
    | (refine wpList_storeM rfl _ _ rfl w8.heap.size x zeroM rfl rfl _ (heap_alloc_new w8 _) ?_; intro w9 hd9 ht9; have HD9 := Lib.hid hd9; have HT9 := Lib.hid ht9; clear hd9 ht9))
  have hb9 : Below y3.heap.size y3 w9 := below_of_touch (below_then HB8.out (below_alloc (Below.refl _ _) _)) HT9.out HB8.out.size
  have hmx9 : MOwn w9 wr.heap.size x := HMX.out.keep fun g _ hl => (HT9.out.block g (by rw [World.size_alloc]; omega) (by simp; omega)).trans (heap_alloc_old _ _ hl)
  have HB9 := Lib.hid hb9
  have HMX9 := Lib.hid hmx9
  clear hb9 hmx9 HT9 HMX
  go_wp2_with (first
    | (refine wpList_loadM rfl _ rfl w.heap.size m _ rfl (HBOX.out _ (below_then HB4.out HB9.out)) ?_))
  refine (HENC.out _ (below_then HB4.out HB9.out)).mono ?_
  rintro e w10 ⟨a10, c10, rfl, hown10, hb10⟩
  have hb10' := below_then HB9.out hb10
  have hd10 := (hb10.block _ (Array.getElem?_eq_some_iff.1 HD9.out).1).trans HD9.out
  have hmx10 := HMX9.out.keep fun g _ hl => hb10.block g hl
  have heq10 := HEQ.out w10 (below_then HB4.out hb10') x hmx10.ok HPX.out
  obtain ⟨a0, a1, a2', a3', a4, a5, a6, a7, a8, a9, a10', a11, a12, a13⟩ := ms_cells (HBOX.out _ (below_then HB4.out hb10'))
  obtain ⟨b0, b1, b2, b3, b4, b5, b6, b7, b8, b9, b10, b11, b12, b13⟩ := ms_cells hd10
  have HB10 := Lib.hid hb10'
  have HEQ10 := Lib.hid heq10
  have HO10 := Lib.hid hown10
  clear hb10 hb10' hd10 hmx10 heq10 hown10 HD9 HMX9
  go_wp2_with fail
  refine HEQ10.out.mono ?_
  rintro e w11 ⟨rfl, hb11⟩
  have hcm2 := HO4.out.cap
  have hcm3 := HO10.out.cap
  have hsm := same_any a2 a10 nb nb c2 c10 bs bs w11 (HO4.out.row.below (below_then HB10.out hb11)) (HO10.out.row.below hb11) (by omega) (by omega)
  rw [decide_eq_true rfl] at hsm
  have HSM := Lib.hid hsm
  have HB11 := Lib.hid (below_then HB4.out (below_then HB10.out hb11))
  clear hsm hb11 hcm2 hcm3 HEQ10 a0 a1 a2' a3' a4 a5 a6 a7 a8 a9 a10' a11 a12 a13 b0 b1 b2 b3 b4 b5 b6 b7 b8 b9 b10 b11 b12 b13
  go_wp2_with fail
  refine HSM.out.mono ?_
  rintro e w12 ⟨rfl, q12, hq12⟩
  have HB12 := Lib.hid (show Below X.heap.size X w12 by rw [hq12]; exact below_drewN HB11.out q12)
  clear hq12
  go_wp2_with fail
  exact HP.out _ (below_then HXB.out HB12.out)
end Go.Proofs.Ytcejamblndilbaa
