/- cert's over: the greatest number of what a submission reads. -/
import Derived.Test.YtpknmfmpiachkaaGreatCert1
namespace Go.Proofs.YtpknmfmpiachkaaGreat
open Go.RowKit
def overK (L : List VI) (m : Int) (key : Nat) : Int := max m (vAt L key)
def overS (L : List VI) (m : Int) (x : Spn) : Int := max m (vOver L x)
def overP (L : List VI) (s : SubP) : Int := s.spans.foldl (overS L) (s.reads.foldl (overK L) 0)
set_option maxRecDepth 100000 in
set_option maxHeartbeats 6400000 in
theorem overC_any (κ : Nat → Nat) (i N most : Nat) (L : List VI) (hL : SortedV L) (m : SubM) (hr : m.s.Right) (w : World) (hT : TabAt w κ i N most L) (hm : m.ok w) :
 Calls Tryz.prog 100 #[.pointer (some ⟨N, 0, none⟩), m.args] w (RetBox w (.int .i64 (overP L m.s))) := by
 have hlr := hr.lr
 have hls := hr.ls
 have hat := fun key hk W (hb : Below w.heap.size w W) => at_any κ i N most L hL key hk W (hT.chg (Chg.of_below (J := fun _ => False) hb) id)
 have hov := fun s hs W (hb : Below w.heap.size w W) => over_any κ i N most L hL s hs W (hT.chg (Chg.of_below (J := fun _ => False) hb) id)
 obtain ⟨R, hR⟩ : ∃ R, R = overP L m.s := ⟨_, rfl⟩
 rw [← hR]
 unfold overP at hR
 obtain ⟨R1, hR1⟩ : ∃ R1, R1 = m.s.reads.foldl (overK L) 0 := ⟨_, rfl⟩
 rw [← hR1] at hR
 have HR := Lib.hid hR
 have HR1 := Lib.hid hR1
 have HAT := Lib.hid hat
 have HOV := Lib.hid hov
 have HM := Lib.hid hm
 clear hat hov hR hR1 hT hr hm
 unfold SubM.args
 obtain ⟨nr, hnr⟩ : ∃ nr, nr = m.s.reads.length := ⟨_, rfl⟩
 obtain ⟨ns, hns⟩ : ∃ ns, ns = m.s.spans.length := ⟨_, rfl⟩
 rw [← hnr, ← hns]
 rw [← hnr] at hlr
 rw [← hns] at hls
 obtain ⟨Y, hY⟩ : ∃ Y, Y = w.alloc (.cells #[.int .i64 m.s.session, .int .i64 m.s.seq, .int .i64 m.s.snap, .slice m.ra nr m.rc, .slice m.sa ns m.sc, .slice m.wa m.s.writes.length m.wc] 26) := ⟨_, rfl⟩
 have hbY : Below w.heap.size w Y := hY ▸ below_alloc (Below.refl _ _) _
 have hYB : Y.heap[w.heap.size]? = some (.cells #[.int .i64 m.s.session, .int .i64 m.s.seq, .int .i64 m.s.snap, .slice m.ra nr m.rc, .slice m.sa ns m.sc, .slice m.wa m.s.writes.length m.wc] 26 (0, 0)) := hY ▸ heap_alloc_new w _
 obtain ⟨c0, c1, c2, c3, c4, c5⟩ := six_cells hYB
 have HBY := Lib.hid hbY
 have HYB := Lib.hid hYB
 have HNR := Lib.hid hnr
 have HNS := Lib.hid hns
 clear hbY hYB hnr hns
 go_enter Tryz.func100, Tryz.ntmps100
 go_upto_region 2 with fail
 rw [← hY]
 clear hY
 go_wp2_with fail
 go_loopw [5, 13] (fun s5 s13 wr => ∃ (k : Nat) (q : Int), s5 = .int .i64 q ∧ s13 = .int .i64 k ∧ k ≤ nr ∧ Hid (R1 = (m.s.reads.drop k).foldl (overK L) q) ∧ Hid (Below w.heap.size w wr) ∧ Hid (Below Y.heap.size Y wr)) (fun _ s13 _ => nr - (intOf s13).toNat)
 case atStart => exact ⟨0, 0, rfl, rfl, Nat.zero_le _, HR1.out, HBY.out, Below.refl _ _⟩
 case round =>
  obtain ⟨k, q, rfl, rfl, hk, HQ, HBW, HBB⟩ := hrel
  have hk0 : (0 : Int) ≤ (k : Int) := by omega
  have hnat : ((k : Int)).toNat = k := by omega
  clear c0 c1 c2 c3 c4 c5
  by_cases hlt : k < nr
  · obtain ⟨x, hx⟩ : ∃ x, m.s.reads[k]? = some x := ⟨_, List.getElem?_eq_getElem (by rw [← HNR.out]; exact hlt)⟩
    have hxl := HM.out.words.reads x (List.mem_of_getElem? hx)
    obtain ⟨b, off, hra, e0⟩ := float_at (HM.out.below HBW.out).reads k (by rw [← HNR.out]; exact hlt) x hx
    have hkn : (k : Int) < (nr : Int) := by omega
    have hq := HQ.out
    rw [drop_at hx] at hq
    have HQ2 : Hid (R1 = (m.s.reads.drop (k + 1)).foldl (overK L) (max q (vAt L x))) := hq
    obtain ⟨V, hV⟩ : ∃ V, V = vAt L x := ⟨_, rfl⟩
    have ha := HAT.out x hxl
    rw [← hV] at HQ2 ha
    have HA := Lib.hid ha
    clear hx hq hV ha
    rw [hra]
    go_wp2_with fail
    refine (HA.out _ HBW.out).mono ?_
    rintro e w1 ⟨rfl, hb1⟩
    have HB1 := Lib.hid hb1
    clear hb1 e0
    go_wp2_with fail
    go_roundw
    case rel => exact ⟨k + 1, max q V, rfl, by go_num, by omega, HQ2.out, below_then HBW.out HB1.out, below_then HBB.out HB1.out⟩
    case measure => simp [intOf]; omega
  · obtain rfl : k = nr := by omega
    have hq := HQ.out
    rw [List.drop_of_length_le (by rw [← HNR.out]; exact Nat.le_refl _)] at hq
    have HQ2 : Hid (R1 = q) := hq
    obtain ⟨c0, c1, c2, c3, c4, c5⟩ := six_cells ((HBB.out.block _ (lt_of_block HYB.out)).trans HYB.out)
    clear hq
    go_wp2_with fail
    clear c0 c1 c2 c3 c4 c5
    have HBBW := Lib.hid HBW.out
    have hw0 := HBW.out
    obtain ⟨Z, hZ⟩ : ∃ Z, Z = wr := ⟨_, rfl⟩
    rw [← hZ]
    have HZ := Lib.hid (hZ ▸ hw0 : Below w.heap.size w Z)
    clear hZ hw0
    go_loopw [5, 26] (fun s5 s26 wx => ∃ (k2 : Nat) (q2 : Int), s5 = .int .i64 q2 ∧ s26 = .int .i64 k2 ∧ k2 ≤ ns ∧ Hid (R = (m.s.spans.drop k2).foldl (overS L) q2) ∧ Hid (Below w.heap.size w wx)) (fun _ s26 _ => ns - (intOf s26).toNat)
    case atStart => exact ⟨0, q, rfl, rfl, Nat.zero_le _, by show _ = _; rw [← HQ2.out]; exact HR.out, HZ.out⟩
    case round =>
     obtain ⟨k2, q2, rfl, rfl, hk2, HQ3, HBX⟩ := hrel
     have hk20 : (0 : Int) ≤ (k2 : Int) := by omega
     have hnat2 : ((k2 : Int)).toNat = k2 := by omega
     by_cases hlt2 : k2 < ns
     · obtain ⟨x, hx⟩ : ∃ x, m.s.spans[k2]? = some x := ⟨_, List.getElem?_eq_getElem (by rw [← HNS.out]; exact hlt2)⟩
       have hxl := HM.out.words.spans x (List.mem_of_getElem? hx)
       obtain ⟨b, off, hsa, e0, e1, e2, e3⟩ := span_at (HM.out.below HBX.out).spans rfl k2 (by rw [← HNS.out]; exact hlt2) x hx
       have hkn2 : (k2 : Int) < (ns : Int) := by omega
       have hq := HQ3.out
       rw [drop_at hx] at hq
       have HQ4 : Hid (R = (m.s.spans.drop (k2 + 1)).foldl (overS L) (max q2 (vOver L x))) := hq
       obtain ⟨V, hV⟩ : ∃ V, V = vOver L x := ⟨_, rfl⟩
       have ha := HOV.out x hxl
       rw [← hV] at HQ4 ha
       obtain ⟨lo, hi, lop, hop⟩ := x
       unfold Spn.agg at ha
       simp only at ha e0 e1 e2 e3
       have HA := Lib.hid ha
       clear hx hxl hq hV ha
       rw [hsa]
       obtain ⟨X, hX⟩ : ∃ X, X = wr.alloc (.cells #[.float .f64 lo, .float .f64 hi, .bool lop, .bool hop] 101) := ⟨_, rfl⟩
       have hbX : Below w.heap.size w X := hX ▸ below_alloc HBX.out _
       have hXB : X.heap[wr.heap.size]? = some (.cells #[.float .f64 lo, .float .f64 hi, .bool lop, .bool hop] 101 (0, 0)) := hX ▸ heap_alloc_new wr _
       obtain ⟨⟨d0, d1, d2, d3⟩, _⟩ := four_cells hXB
       have HBX2 := Lib.hid hbX
       clear hbX hXB
       go_upto_region 10 with fail
       rw [← hX]
       clear hX e0 e1 e2 e3
       go_wp2_with fail
       refine (HA.out _ HBX2.out).mono ?_
       rintro e w1 ⟨rfl, hb1⟩
       have HB1 := Lib.hid hb1
       clear hb1 d0 d1 d2 d3
       go_wp2_with fail
       go_roundw
       case rel => exact ⟨k2 + 1, max q2 V, rfl, by go_num, by omega, HQ4.out, below_then HBX2.out HB1.out⟩
       case measure => simp [intOf]; omega
     · obtain rfl : k2 = ns := by omega
       have hq := HQ3.out
       rw [List.drop_of_length_le (by rw [← HNS.out]; exact Nat.le_refl _)] at hq
       have HQ4 : Hid (R = q2) := hq
       clear hq
       go_wp2_with fail
       go_ret
       exact ⟨by rw [HQ4.out]; rfl, HBX.out⟩
end Go.Proofs.YtpknmfmpiachkaaGreat
