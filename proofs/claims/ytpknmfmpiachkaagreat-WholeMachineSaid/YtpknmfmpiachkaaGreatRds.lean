/- serial's Reads. -/
import Derived.Test.YtpknmfmpiachkaaGreatSnd2
import Derived.Test.YtpknmfmpiachkaaGreatHist2
import Derived.Test.YtpknmfmpiachkaaGreatSrt
namespace Go.Proofs.YtpknmfmpiachkaaGreat
open Go.RowKit
theorem sorted_nums {h : List DoneV} (hr : rightP h = true) {o : List Int} (hp : o.Perm (h.map DoneV.num)) : (o.mergeSort fun x y => decide (x ≤ y)) = h.map DoneV.num := by
 refine List.Perm.eq_of_pairwise (le := fun x y : Int => x ≤ y) (fun a b _ _ h1 h2 => Int.le_antisymm h1 h2) ?_ ?_ ((List.mergeSort_perm o _).trans hp)
 · have := List.pairwise_mergeSort (le := fun x y : Int => decide (x ≤ y)) (fun a b c h1 h2 => by simp only [decide_eq_true_eq] at *; omega) (fun a b => by simp only [Bool.or_eq_true, decide_eq_true_eq]; omega) o
   exact this.imp fun h => of_decide_eq_true h
 · rw [List.pairwise_iff_getElem]
   intro i j hi hj hij
   rw [List.length_map] at hi hj
   simp only [List.getElem_map]
   have h1 := rightP_num hr i h[i] (List.getElem?_eq_getElem hi)
   have h2 := rightP_num hr j h[j] (List.getElem?_eq_getElem hj)
   omega
theorem verP_snoc {h : List DoneV} {k : Nat} {d : DoneV} (hd : h[k]? = some d) (key : Nat) (snap : Int) : verP (h.take (k + 1)) key snap = if d.num ≤ snap ∧ writesP d.m.s key = true then d.num else verP (h.take k) key snap := by
 unfold verP
 rw [take_snoc hd, List.foldl_append]
 rfl
theorem lastP_snoc {h : List DoneV} {o : List Int} {k : Nat} {x : Int} (hx : o[k]? = some x) (key : Nat) : lastP h key (o.take (k + 1)) = if wrAt h key x = true then x else lastP h key (o.take k) := by
 unfold lastP
 rw [take_snoc hx, List.foldl_append]
 rfl
set_option maxRecDepth 100000 in
set_option maxHeartbeats 6400000 in
theorem version_any (a : Option Addr) (n cap : Nat) (h : List DoneV) (hR : ∀ d ∈ h, d.m.s.Right) (key : Nat) (hkey : key < 18446744073709551616) (snap : Int) (w : World) (hn : n ≤ 64) (hh : HistAt w a n cap h) :
 Calls Tryz.prog 36 #[.slice a n cap, .float .f64 key, .int .i64 snap] w (RetBox w (.int .i64 (verP h key snap))) := by
 have HH := Lib.hid hh
 have HRT := Lib.hid hR
 have HLEN := Lib.hid hh.len
 clear hh hR
 go_enter Tryz.func36, Tryz.ntmps36
 go_wp2_with fail
 go_loopg [7, 12] n (fun g s7 s12 wx => ∃ (k : Nat) (V : Int), s12 = .int .i64 k ∧ s7 = .int .i64 V ∧ k ≤ n ∧ g = n - k ∧ Hid (V = verP (h.take k) key snap) ∧ Hid (Below w.heap.size w wx))
 case atStart => exact ⟨0, 0, rfl, rfl, Nat.zero_le _, rfl, rfl, Below.refl _ _⟩
 case round =>
  obtain ⟨k, V, rfl, rfl, hk, rfl, HV, HB⟩ := hrel
  have hk0 : (0 : Int) ≤ (k : Int) := by omega
  have hnat : ((k : Int)).toNat = k := by omega
  by_cases hlt : k < n
  · obtain ⟨d, hd⟩ : ∃ d, h[k]? = some d := ⟨_, List.getElem?_eq_getElem (by rw [HLEN.out]; exact hlt)⟩
    have hdm := List.mem_of_getElem? hd
    have hHw := HH.out.below HB.out
    obtain ⟨b, off, rfl, e0, e1, e2, e3, e4, e5, e6⟩ := done_at hHw.row HLEN.out k hlt d hd
    have hkn : (k : Int) < (n : Int) := by omega
    obtain ⟨X, hX⟩ : ∃ X, X = wr.alloc (.cells d.cells.toArray 40) := ⟨_, rfl⟩
    have hbX : Below w.heap.size w X := hX ▸ below_alloc HB.out _
    have hbX2 : Below wr.heap.size wr X := hX ▸ below_alloc (Below.refl _ _) _
    have hXB : X.heap[wr.heap.size]? = some (.cells d.cells.toArray 40 (0, 0)) := hX ▸ heap_alloc_new wr _
    have HW := Lib.hid (writes_any d.m (HRT.out d hdm) key hkey X ((hHw.ok d hdm).below hbX2))
    have HS := Lib.hid (verP_snoc hd key snap)
    obtain ⟨XB, hXBe⟩ : ∃ XB, XB = wr.heap.size := ⟨_, rfl⟩
    rw [← hXBe] at hXB
    obtain ⟨c0, c1, c2, c3, c4, c5, c6⟩ := done_block hXB
    have HX := Lib.hid hX
    have HXE := Lib.hid hXBe
    have HBX := Lib.hid hbX
    have HXB := Lib.hid hXB
    clear hd hdm hHw hX hXBe hbX hbX2 hXB
    go_upto_region 5 with fail
    rw [show wr.alloc (.cells #[.int .i64 d.num, .int .i64 d.m.s.session, .int .i64 d.m.s.seq, .int .i64 d.m.s.snap, .slice d.m.ra d.m.s.reads.length d.m.rc, .slice d.m.sa d.m.s.spans.length d.m.sc, .slice d.m.wa d.m.s.writes.length d.m.wc] 40) = X from HX.out.symm, ← HXE.out]
    clear e0 e1 e2 e3 e4 e5 e6 HX HXE
    by_cases h1 : d.num ≤ snap
    · go_wp2_with fail
      refine HW.out.mono ?_
      rintro e w1 ⟨rfl, hb1⟩
      have HB1 := Lib.hid (below_then HBX.out hb1)
      have d0 := (done_block ((hb1.block _ (lt_of_block HXB.out)).trans HXB.out)).1
      clear hb1 c0 c1 c2 c3 c4 c5 c6
      obtain ⟨WR, hWR⟩ : ∃ WR, WR = writesP d.m.s key := ⟨_, rfl⟩
      rw [← hWR]
      cases WR with
      | true =>
        have HV2 : Hid (d.num = verP (h.take (k + 1)) key snap) := by show _ = _; rw [HS.out, if_pos ⟨h1, hWR.symm⟩]
        clear hWR
        go_wp2_with fail
        go_roundg (n - (k + 1))
        case measure => omega
        case rel => exact ⟨k + 1, d.num, by go_num, rfl, by omega, rfl, HV2, HB1⟩
      | false =>
        have HV2 : Hid (V = verP (h.take (k + 1)) key snap) := by show _ = _; rw [HS.out, if_neg (fun h => by rw [h.2] at hWR; cases hWR)]; exact HV.out
        clear hWR
        go_wp2_with fail
        go_roundg (n - (k + 1))
        case measure => omega
        case rel => exact ⟨k + 1, V, by go_num, rfl, by omega, rfl, HV2, HB1⟩
    · have HV2 : Hid (V = verP (h.take (k + 1)) key snap) := by show _ = _; rw [HS.out, if_neg (fun h => h1 h.1)]; exact HV.out
      go_wp2_with fail
      go_roundg (n - (k + 1))
      case measure => omega
      case rel => exact ⟨k + 1, V, by go_num, rfl, by omega, rfl, HV2, HBX⟩
  · obtain rfl : k = n := by omega
    go_wp2_with fail
    go_ret
    refine ⟨?_, HB.out⟩
    rw [HV.out, List.take_of_length_le (by rw [HLEN.out]; omega)]
    rfl
theorem lt_of_cell {w : World} {b o : Nat} {v : Value} (h : w.cell? ⟨b, o, none⟩ = some v) : b < w.heap.size := by
 rcases Nat.lt_or_ge b w.heap.size with hlt | hge
 · exact hlt
 · have : w.heap[b]? = none := Array.getElem?_eq_none hge
   simp [World.cell?, this] at h
set_option maxRecDepth 100000 in
set_option maxHeartbeats 3200000 in
theorem readsFn_any (d : DoneV) (B : Nat) (sa : Option Addr) (len sc : Nat) (zs : List Int) (w : World) (hB : w.cell? ⟨B, 0, none⟩ = some (.slice sa len sc)) (hrow : RowN w sa 1 len (cellsI zs)) (hl : zs.length = len) (k : Nat) (hz : zs[k]? = some d.num) (hk : d.num = (k : Int) + 1) (hb : len ≤ 64) :
 Calls Tryz.prog 34 #[d.agg, .pointer (some ⟨B, 0, none⟩)] w (RetBox w (.bool false)) := by
 obtain ⟨b, off, rfl, hc⟩ := vals_at hrow hz
 have hkl : k < len := by rw [← hl]; exact (List.getElem?_eq_some_iff.1 hz).1
 have hblt := lt_of_cell hB
 have hblt2 := lt_of_cell hc
 obtain ⟨Y, hY⟩ : ∃ Y, Y = w.alloc (.cells d.cells.toArray 40) := ⟨_, rfl⟩
 have hbY : Below w.heap.size w Y := hY ▸ below_alloc (Below.refl _ _) _
 have hYB : Y.heap[w.heap.size]? = some (.cells d.cells.toArray 40 (0, 0)) := hY ▸ heap_alloc_new w _
 have f0 : Y.cell? ⟨B, 0, none⟩ = some (.slice (some ⟨b, off, none⟩) len sc) := (hbY.cell (p := ⟨B, 0, none⟩) hblt).trans hB
 have f1 : Y.cell? ⟨b, off + k, none⟩ = some (.int .i64 d.num) := (hbY.cell (p := ⟨b, off + k, none⟩) hblt2).trans hc
 obtain ⟨c0, c1, c2, c3, c4, c5, c6⟩ := done_block hYB
 have hsub : IntKind.i64.wrap (d.num - 1) = (k : Int) := by rw [IntKind.wrap_i64, hk]; omega
 have hkI : (k : Int) < (len : Int) := by omega
 have hk0 : (0 : Int) ≤ (k : Int) := by omega
 have hnat : ((k : Int)).toNat = k := by omega
 have HY := Lib.hid hY
 have HBY := Lib.hid hbY
 rw [show #[d.agg, .pointer (some ⟨B, 0, none⟩)] = #[Value.agg #[.int .i64 d.num, .int .i64 d.m.s.session, .int .i64 d.m.s.seq, .int .i64 d.m.s.snap, .slice d.m.ra d.m.s.reads.length d.m.rc, .slice d.m.sa d.m.s.spans.length d.m.sc, .slice d.m.wa d.m.s.writes.length d.m.wc], .pointer (some ⟨B, 0, none⟩)] from rfl]
 clear hY hbY hYB hB hc hrow hblt hblt2 hk hz
 go_enter Tryz.func34, Tryz.ntmps34
 go_upto_region 1 with fail
 rw [show w.alloc (.cells #[.int .i64 d.num, .int .i64 d.m.s.session, .int .i64 d.m.s.seq, .int .i64 d.m.s.snap, .slice d.m.ra d.m.s.reads.length d.m.rc, .slice d.m.sa d.m.s.spans.length d.m.sc, .slice d.m.wa d.m.s.writes.length d.m.wc] 40) = Y from HY.out.symm]
 clear HY
 go_quiet (fail)
 go_wp2_with fail
 go_ret
 exact ⟨rfl, below_drewN HBY.out _⟩
theorem valuesC (a : Option Addr) (len cap : Nat) (w : World) : Calls Tryz.prog 33 #[.slice a len cap] w fun e w' => e = .returned (.func (.func 72) #[] #[.pointer (some ⟨w.heap.size, 0, none⟩)]) ∧ w' = w.alloc (.cells #[.slice a len cap] 41) :=
 (callsIn_wide (n := 3)).1 (values_in Fence.wide 3 trivial rfl a len cap w)
set_option maxRecDepth 100000 in
set_option maxHeartbeats 12800000 in
theorem serialReads_any (a : Option Addr) (n cap : Nat) (h : List DoneV) (hr : rightP h = true) (oa : Option Addr) (on oc : Nat) (o : List Int) (hol : o.length = on) (w : World) (hh : HistAt w a n cap h) (hrow : RowN w oa 1 on (cellsI o)) (hp : o.Perm (h.map DoneV.num))
 (hlaw : ∀ key, KeyOk key → ∀ (k : Nat) (x : Int) (d : DoneV), o[k]? = some x → h[(x - 1).toNat]? = some d → readsP d.m.s key = true → lastP h key (o.take k) = verP h key d.m.s.snap) :
 Calls Tryz.prog 12 #[.slice a n cap, .slice oa on oc] w (RetBox w (.bool true)) := by
 have hpr := rightP_right (fun d hd => (hh.ok d hd).words) hr
 have hlen := hh.len
 have hn64 : n ≤ 64 := by rw [← hlen]; exact hpr.1
 have honn : on = n := by
  have := hp.length_eq
  rw [List.length_map] at this
  omega
 subst honn
 have hri := fun W (hb : Below w.heap.size w W) => right_any a on cap h W (hh.below hb)
 rw [hr] at hri
 have eg : ∀ args w, (callFunc 34 args).run Tryz.prog w = .ok (.enter 34 args) w := enters_of Tryz.func34 (by kernel_rfl) rfl
 have hmf : ∀ (fn : Fn) (first cap : Array Value) (w : World), (Instr.makeFunc fn first cap).run Tryz.prog w = .ok (.func fn first cap) w := fun _ _ _ _ => rfl
 have hnum := rightP_num hr
 have hnin : ∀ x ∈ o, ∃ (p : Nat) (d : DoneV), h[p]? = some d ∧ x = (p : Int) + 1 := fun x hx => by
  obtain ⟨d, hd, rfl⟩ := List.mem_map.1 (hp.mem_iff.1 hx)
  obtain ⟨p, hpp⟩ := List.mem_iff_getElem?.1 hd
  exact ⟨p, d, hpp, hnum p d hpp⟩
 have hsn := sorted_nums hr hp
 have HH := Lib.hid hh
 have HROW := Lib.hid hrow
 have HOL := Lib.hid hol
 have HLEN := Lib.hid hlen
 have HRR := Lib.hid hpr.2
 have HRI := Lib.hid hri
 have HEG := Lib.hid eg
 have HNUM := Lib.hid hnum
 have HIN := Lib.hid hnin
 have HSN := Lib.hid hsn
 have HLAW := Lib.hid hlaw
 clear hpr hlen hri eg hnum hnin hsn hlaw hp hr hh hrow hol
 go_enter Tryz.func12, Tryz.ntmps12
 go_wp2_with fail
 refine (valuesC _ _ _ _).mono ?_
 rintro e w1 ⟨rfl, hw1⟩
 have HB1 : Hid (Below w.heap.size w w1) := hw1 ▸ below_alloc (Below.refl _ _) _
 have hc1 : w1.cell? ⟨w.heap.size, 0, none⟩ = some (.slice oa on oc) := by rw [hw1]; exact (Boxed.new w _ _).cell
 have hs1 : w.heap.size < w1.heap.size := lt_of_cell hc1
 have HSO := Lib.hid (sorted_any w.heap.size oa on oc o HOL.out (by omega) w1 hc1 hs1 (HROW.out.below HB1.out))
 clear hw1 hc1 hs1
 go_wp2_with fail
 refine HSO.out.mono ?_
 rintro e w2 ⟨v, rfl, hown, hb2⟩
 rw [HOL.out] at hown
 obtain ⟨sa, sc, rfl⟩ : ∃ sa sc, v = .slice sa on sc := by
  rcases hown.2 with ⟨rfl, h0⟩ | ⟨g, cp, _, rfl, _⟩
  · exact ⟨none, 0, by rw [h0]⟩
  · exact ⟨_, _, rfl⟩
 rw [HSN.out] at hown
 have HSR := Lib.hid (RowN.of_own hown)
 have HB2 := Lib.hid (below_then HB1.out hb2)
 clear hown hb2 HSO HB1
 obtain ⟨X, hX⟩ : ∃ X, X = w2.alloc (.cells #[.slice sa on sc] 41) := ⟨_, rfl⟩
 obtain ⟨XB, hXB⟩ : ∃ XB, XB = w2.heap.size := ⟨_, rfl⟩
 have hbX : Below w2.heap.size w2 X := hX ▸ below_alloc (Below.refl _ _) _
 have hXc : X.cell? ⟨XB, 0, none⟩ = some (.slice sa on sc) := by rw [hX, hXB]; exact (Boxed.new w2 _ _).cell
 have HBX := Lib.hid (below_then HB2.out hbX)
 have HSX := Lib.hid (HSR.out.below hbX)
 have HXC := Lib.hid hXc
 have HX := Lib.hid hX
 have HXE := Lib.hid hXB
 clear hX hXB hbX hXc HSR HB2
 go_upto_region 2 with fail
 rw [← HX.out, ← HXE.out]
 clear HX HXE
 go_wp2_with fail
 refine (HRI.out _ HBX.out).mono ?_
 rintro e w3 ⟨rfl, hb3⟩
 have HB3 := Lib.hid (below_then HBX.out hb3)
 have hxl := lt_of_cell HXC.out
 have hcd : Calls Tryz.prog 29 #[.slice a on cap, .func (.func 34) #[] #[.pointer (some ⟨XB, 0, none⟩)]] w3 (RetBox w3 (.bool (h.any fun _ => false))) :=
  containsD_any 34 #[.pointer (some ⟨XB, 0, none⟩)] (fun _ => false) h a on cap w3 (HH.out.below HB3.out).row HLEN.out (by omega) HEG.out (fun d hd Z hZ => by
   obtain ⟨p, hpp⟩ := List.mem_iff_getElem?.1 hd
   have hXZ := below_then hb3 hZ
   exact readsFn_any d XB sa on sc (h.map DoneV.num) Z ((hXZ.cell (p := ⟨XB, 0, none⟩) hxl).trans HXC.out) (HSX.out.below hXZ) (by rw [List.length_map]; exact HLEN.out) p (by rw [List.getElem?_map, hpp]; rfl) (HNUM.out p d hpp) hn64)
 rw [show (h.any fun _ => false) = false by rw [List.any_eq_false]; intro x _ hx; cases hx] at hcd
 have HCD := Lib.hid hcd
 clear hb3 hcd hxl
 go_wp2_with fail
 refine HCD.out.mono ?_
 rintro e w4 ⟨rfl, hb4⟩
 have HB4 := Lib.hid (below_then HB3.out hb4)
 clear hb4 HCD HXC HSX HBX HB3 HRI
 go_wp2_with fail
 go_loopg [34] on (fun g s34 wx => ∃ k : Nat, s34 = .int .i64 k ∧ k ≤ on ∧ g = on - k ∧ Hid (Below w.heap.size w wx))
 case atStart => exact ⟨0, rfl, Nat.zero_le _, rfl, HB4.out⟩
 case round =>
  obtain ⟨k, rfl, hk, rfl, HB⟩ := hrel
  clear HB4
  have hk0 : (0 : Int) ≤ (k : Int) := by omega
  have hnat : ((k : Int)).toNat = k := by omega
  by_cases hlt : k < on
  · obtain ⟨d, hd⟩ : ∃ d, h[k]? = some d := ⟨_, List.getElem?_eq_getElem (by rw [HLEN.out]; exact hlt)⟩
    have hdm := List.mem_of_getElem? hd
    have hHw := HH.out.below HB.out
    obtain ⟨b, off, rfl, e0, e1, e2, e3, e4, e5, e6⟩ := done_at hHw.row HLEN.out k hlt d hd
    have hkn : (k : Int) < (on : Int) := by omega
    have HDR := Lib.hid (HRR.out d hdm)
    have HDO := Lib.hid (HH.out.ok d hdm)
    obtain ⟨X2, hX2⟩ : ∃ X2, X2 = wr.alloc (.cells d.cells.toArray 40) := ⟨_, rfl⟩
    have HBX2 := Lib.hid (show Below w.heap.size w X2 from hX2 ▸ below_alloc HB.out _)
    have hXD : X2.heap[wr.heap.size]? = some (.cells d.cells.toArray 40 (0, 0)) := hX2 ▸ heap_alloc_new wr _
    obtain ⟨c0, c1, c2, c3, c4, c5, c6⟩ := done_block hXD
    have HX2 := Lib.hid hX2
    clear hd hdm hHw hX2 hXD
    go_upto_region 7 with fail
    rw [show wr.alloc (.cells #[.int .i64 d.num, .int .i64 d.m.s.session, .int .i64 d.m.s.seq, .int .i64 d.m.s.snap, .slice d.m.ra d.m.s.reads.length d.m.rc, .slice d.m.sa d.m.s.spans.length d.m.sc, .slice d.m.wa d.m.s.writes.length d.m.wc] 40) = X2 from HX2.out.symm]
    clear e0 e1 e2 e3 e4 e5 e6 HX2
    have HWR := Lib.hid HDO.out.writes
    have HWW := Lib.hid HDO.out.words.writes
    have HWK := Lib.hid HDR.out.writes
    have hwl : d.m.s.writes.length ≤ 16 := HDR.out.lw
    obtain ⟨WS, hWS⟩ : ∃ WS, WS = d.m.s.writes := ⟨_, rfl⟩
    obtain ⟨wa, hwa⟩ : ∃ wa, wa = d.m.wa := ⟨_, rfl⟩
    obtain ⟨wc0, hwc⟩ : ∃ wc0, wc0 = d.m.wc := ⟨_, rfl⟩
    rw [← hWS, ← hwa, ← hwc] at c6
    rw [← hWS, ← hwa] at HWR
    rw [← hWS] at HWW HWK hwl
    clear hWS hwa hwc HDR HDO
    go_wp2_with fail
    clear c0 c1 c2 c3 c4 c5 c6
    go_loopg [42] WS.length (fun g s42 wx => ∃ j : Nat, s42 = .int .i64 j ∧ j ≤ WS.length ∧ g = WS.length - j ∧ Hid (Below w.heap.size w wx))
    case atStart => exact ⟨0, rfl, Nat.zero_le _, rfl, HBX2.out⟩
    case round =>
     obtain ⟨j, rfl, hj, rfl, HBj⟩ := hrel
     clear HBX2
     have hj0 : (0 : Int) ≤ (j : Int) := by omega
     have hnatj : ((j : Int)).toNat = j := by omega
     by_cases hltj : j < WS.length
     · obtain ⟨key, hkey⟩ : ∃ key, WS[j]? = some key := ⟨_, List.getElem?_eq_getElem hltj⟩
       have hkm := List.mem_of_getElem? hkey
       have HKW := Lib.hid (HWW.out key hkm)
       have HLW := Lib.hid (HLAW.out key (HWK.out key hkm))
       obtain ⟨b1, off1, rfl, f0⟩ := float_at (HWR.out.below HBj.out) j hltj key hkey
       have hjn : (j : Int) < (WS.length : Int) := by omega
       clear hkey hkm
       go_wp2_with fail
       go_loopg [10, 48] on (fun g s10 s48 wx => ∃ (i : Nat) (L : Int), s48 = .int .i64 i ∧ s10 = .int .i64 L ∧ i ≤ on ∧ g = on - i ∧ Hid (L = lastP h key (o.take i)) ∧ Hid (Below w.heap.size w wx))
       case atStart => exact ⟨0, 0, rfl, rfl, Nat.zero_le _, rfl, rfl, HBj.out⟩
       case round =>
        obtain ⟨i, L, rfl, rfl, hi, rfl, HL, HBi⟩ := hrel
        clear HBj
        have hi0 : (0 : Int) ≤ (i : Int) := by omega
        have hnati : ((i : Int)).toNat = i := by omega
        by_cases hlti : i < on
        · obtain ⟨x, hx⟩ : ∃ x, o[i]? = some x := ⟨_, List.getElem?_eq_getElem (by rw [HOL.out]; exact hlti)⟩
          obtain ⟨p, t, ht, hxp⟩ := HIN.out x (List.mem_of_getElem? hx)
          obtain ⟨b2, off2, rfl, g0⟩ := vals_at (HROW.out.below HBi.out) hx
          have hpl : p < on := by rw [← HLEN.out]; exact (List.getElem?_eq_some_iff.1 ht).1
          have htm := List.mem_of_getElem? ht
          have hHw := HH.out.below HBi.out
          obtain ⟨b3, off3, hra, e0, e1, e2, e3, e4, e5, e6⟩ := done_at hHw.row HLEN.out p hpl t ht
          simp only [Option.some.injEq, Addr.mk.injEq, and_true] at hra
          obtain ⟨rfl, rfl⟩ := hra
          have hin : (i : Int) < (on : Int) := by omega
          have hpI : (p : Int) < (on : Int) := by omega
          have hp0 : (0 : Int) ≤ (p : Int) := by omega
          have hnatp : ((p : Int)).toNat = p := by omega
          have hsub : IntKind.i64.wrap (x - 1) = (p : Int) := by rw [IntKind.wrap_i64, hxp]; omega
          have hidx : (x - 1).toNat = p := by omega
          have hwa : wrAt h key x = writesP t.m.s key := by unfold wrAt; rw [hidx, ht]
          have HSN3 := Lib.hid (lastP_snoc (h := h) hx key)
          have HWA := Lib.hid hwa
          have HLW3 := Lib.hid (fun hrd => HLW.out i x t hx (by rw [hidx]; exact ht) hrd)
          obtain ⟨X3, hX3⟩ : ∃ X3, X3 = wr.alloc (.cells t.cells.toArray 40) := ⟨_, rfl⟩
          have hbX3 : Below w.heap.size w X3 := hX3 ▸ below_alloc HBi.out _
          have hXD : X3.heap[wr.heap.size]? = some (.cells t.cells.toArray 40 (0, 0)) := hX3 ▸ heap_alloc_new wr _
          obtain ⟨B3, hB3⟩ : ∃ B3, B3 = wr.heap.size := ⟨_, rfl⟩
          rw [← hB3] at hXD
          have HRD := Lib.hid (reads_any t.m (HRR.out t htm) key HKW.out X3 ((HH.out.ok t htm).below hbX3))
          have HVE := Lib.hid (fun W (hb : Below w.heap.size w W) => version_any (some ⟨b, off, none⟩) on cap h HRR.out key HKW.out t.m.s.snap W hn64 (HH.out.below hb))
          have HWT := Lib.hid (fun W (hb : Below w.heap.size w W) => writes_any t.m (HRR.out t htm) key HKW.out W ((HH.out.ok t htm).below hb))
          obtain ⟨c0, c1, c2, c3, c4, c5, c6⟩ := done_block hXD
          have HX3 := Lib.hid hX3
          have HBE := Lib.hid hB3
          have HBX3 := Lib.hid hbX3
          have HXD := Lib.hid hXD
          clear hx ht htm hHw hX3 hB3 hbX3 hXD hwa hxp hidx
          go_upto_region 15 with fail
          rw [show wr.alloc (.cells #[.int .i64 t.num, .int .i64 t.m.s.session, .int .i64 t.m.s.seq, .int .i64 t.m.s.snap, .slice t.m.ra t.m.s.reads.length t.m.rc, .slice t.m.sa t.m.s.spans.length t.m.sc, .slice t.m.wa t.m.s.writes.length t.m.wc] 40) = X3 from HX3.out.symm, ← HBE.out]
          clear e0 e1 e2 e3 e4 e5 e6 HX3 HBE g0 hsub
          go_wp2_with fail
          refine HRD.out.mono ?_
          rintro e w5 ⟨rfl, hb5⟩
          have HB5 := Lib.hid (below_then HBX3.out hb5)
          have HD5 := Lib.hid ((hb5.block _ (lt_of_block HXD.out)).trans HXD.out)
          clear hb5 c0 c1 c2 c3 c4 c5 c6 HRD HBX3 HXD
          obtain ⟨d0, d1, d2, d3, d4, d5, d6⟩ := done_block HD5.out
          obtain ⟨RD, hRD⟩ : ∃ RD, RD = readsP t.m.s key := ⟨_, rfl⟩
          rw [← hRD]
          cases RD with
          | true =>
            have hv := HLW3.out hRD.symm
            rw [← HL.out] at hv
            rw [← hv] at HVE
            clear hv hRD
            go_wp2_with fail
            refine (HVE.out _ HB5.out).mono ?_
            rintro e w6 ⟨rfl, hb6⟩
            have HB6 := Lib.hid (below_then HB5.out hb6)
            have HD6 := Lib.hid ((hb6.block _ (lt_of_block HD5.out)).trans HD5.out)
            clear hb6 d0 d1 d2 d3 d4 d5 d6
            obtain ⟨d0, d1, d2, d3, d4, d5, d6⟩ := done_block HD6.out
            go_wp2_with fail
            refine (HWT.out _ HB6.out).mono ?_
            rintro e w7 ⟨rfl, hb7⟩
            have HB7 := Lib.hid (below_then HB6.out hb7)
            clear hb7 d0 d1 d2 d3 d4 d5 d6
            obtain ⟨WT, hWT⟩ : ∃ WT, WT = writesP t.m.s key := ⟨_, rfl⟩
            rw [← hWT]
            cases WT with
            | true =>
              have HL2 : Hid (x = lastP h key (o.take (i + 1))) := by show _ = _; rw [HSN3.out, HWA.out, ← hWT]; rfl
              clear hWT
              go_wp2_with fail
              go_roundg (on - (i + 1))
              case measure => omega
              case rel => exact ⟨i + 1, x, by go_num, rfl, by omega, rfl, HL2, HB7.out⟩
            | false =>
              have HL2 : Hid (L = lastP h key (o.take (i + 1))) := by show _ = _; rw [HSN3.out, HWA.out, ← hWT]; exact HL.out
              clear hWT
              go_wp2_with fail
              go_roundg (on - (i + 1))
              case measure => omega
              case rel => exact ⟨i + 1, L, by go_num, rfl, by omega, rfl, HL2, HB7.out⟩
          | false =>
            clear hRD
            go_wp2_with fail
            refine (HWT.out _ HB5.out).mono ?_
            rintro e w7 ⟨rfl, hb7⟩
            have HB7 := Lib.hid (below_then HB5.out hb7)
            clear hb7 d0 d1 d2 d3 d4 d5 d6
            obtain ⟨WT, hWT⟩ : ∃ WT, WT = writesP t.m.s key := ⟨_, rfl⟩
            rw [← hWT]
            cases WT with
            | true =>
              have HL2 : Hid (x = lastP h key (o.take (i + 1))) := by show _ = _; rw [HSN3.out, HWA.out, ← hWT]; rfl
              clear hWT
              go_wp2_with fail
              go_roundg (on - (i + 1))
              case measure => omega
              case rel => exact ⟨i + 1, x, by go_num, rfl, by omega, rfl, HL2, HB7.out⟩
            | false =>
              have HL2 : Hid (L = lastP h key (o.take (i + 1))) := by show _ = _; rw [HSN3.out, HWA.out, ← hWT]; exact HL.out
              clear hWT
              go_wp2_with fail
              go_roundg (on - (i + 1))
              case measure => omega
              case rel => exact ⟨i + 1, L, by go_num, rfl, by omega, rfl, HL2, HB7.out⟩
        · obtain rfl : i = on := by omega
          go_wp2_with fail
          go_roundg (WS.length - (j + 1))
          case measure => omega
          case rel => exact ⟨j + 1, by go_num, by omega, rfl, HBi.out⟩
     · obtain rfl : j = WS.length := by omega
       go_wp2_with fail
       go_roundg (on - (k + 1))
       case measure => omega
       case rel => exact ⟨k + 1, by go_num, by omega, rfl, HBj.out⟩
  · obtain rfl : k = on := by omega
    go_wp2_with fail
    go_ret
    exact ⟨rfl, HB.out⟩
end Go.Proofs.YtpknmfmpiachkaaGreat
