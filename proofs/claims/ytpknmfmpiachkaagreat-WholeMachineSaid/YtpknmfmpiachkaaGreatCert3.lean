/- cert's summary: what the summary says of a submission. -/
import Derived.Test.YtpknmfmpiachkaaGreatCert2
import Derived.Deep.DeepCutAuto
import Derived.Deep.LoopGhost
namespace Go.Proofs.YtpknmfmpiachkaaGreat
open Go.RowKit
structure LookP where
 written : Bool
 out : Bool
 least : Int
 most : Int
def LookP.agg (l : LookP) : Value := .agg #[.bool l.written, .bool l.out, .int .i64 l.least, .int .i64 l.most]
def writtenK (c : CertV) (s : SubP) (b : Bool) (key : Nat) : Bool := b || decide (s.snap < vAt c.wrote key)
def mostK (c : CertV) (q : Int) (key : Nat) : Int := max (max q (vAt c.read key)) (pAtL key c.spans 0)
def summaryP (c : CertV) (s : SubP) : LookP where
 written := s.writes.foldl (writtenK c s) false
 out := decide (s.snap < overP c.wroteOut s)
 least := if s.snap < overP c.wrote s then s.snap + 1 else 0
 most := if s.writes.foldl (mostK c) 0 ≤ s.snap then 0 else s.writes.foldl (mostK c) 0
theorem load_look {w : World} {B : Nat} {c0 c1 c2 c3 : Value} (h : w.heap[B]? = some (.cells #[c0, c1, c2, c3] 73 (0, 0))) : (loadVar 73 ⟨B, 0, none⟩).run Tryz.prog w = .ok (.agg #[c0, c1, c2, c3]) w := by
 refine run_loadVar_mid w B 0 _ [c0, c1, c2, c3] _ (fun j v hv => ?_) Tryz.underlying73 rfl (by kernel_rfl)
 simp only [World.cell?, h, Nat.zero_add]
 rw [← hv]
 simp
theorem look_set3 {w : World} {B : Nat} {T : TypeId} {fr : Nat × Nat} {c0 c1 c2 c3 : Value} {x y : Int} (h : w.heap[B]? = some (.cells #[c0, c1, c2, c3] T fr)) (e : x = y) : (w.setCell ⟨B, 3, none⟩ (.int .i64 x)).heap[B]? = some (.cells #[c0, c1, c2, .int .i64 y] T fr) := e ▸ set_block (i := 3) h _
theorem nine_cells {w : World} {B : Nat} {T : TypeId} {c0 c1 c2 c3 c4 c5 c6 c7 c8 : Value} (h : w.heap[B]? = some (.cells #[c0, c1, c2, c3, c4, c5, c6, c7, c8] T (0, 0))) :
 w.cell? ⟨B, 0, none⟩ = some c0 ∧ w.cell? ⟨B, 1, none⟩ = some c1 ∧ w.cell? ⟨B, 2, none⟩ = some c2 ∧ w.cell? ⟨B, 3, none⟩ = some c3 ∧ w.cell? ⟨B, 4, none⟩ = some c4 ∧ w.cell? ⟨B, 5, none⟩ = some c5 ∧ w.cell? ⟨B, 6, none⟩ = some c6 ∧ w.cell? ⟨B, 7, none⟩ = some c7 ∧ w.cell? ⟨B, 8, none⟩ = some c8 := by
 refine ⟨?_, ?_, ?_, ?_, ?_, ?_, ?_, ?_, ?_⟩ <;> simp [World.cell?, h]
set_option maxRecDepth 100000 in
set_option maxHeartbeats 25600000 in
theorem summary_any (κ : Nat → Nat) (k A : Nat) (c : CertV) (hc : c.Ok) (m : SubM) (hr : m.s.Right) (w : World) (hC : CertAt w κ k A c) (hm : m.ok w) :
 Calls Tryz.prog 55 #[.pointer (some ⟨A, 0, none⟩), m.args] w (RetBox w (summaryP c m.s).agg) := by
 obtain ⟨N1, N2, N3, N4, ra, rn, rcap, hA, _, hT1, hT2, hT3, hT4, _⟩ := hC
 have hlw := hr.lw
 have hsn := hr.snap
 have how := fun W (hb : Below w.heap.size w W) => overC_any κ (k + 1) N1 c.old c.wrote hc.wrote m hr W (hT1.chg (Chg.of_below (J := fun _ => False) hb) id) (hm.below hb)
 have hoo := fun W (hb : Below w.heap.size w W) => overC_any κ (k + 2) N2 c.old c.wroteOut hc.wroteOut m hr W (hT2.chg (Chg.of_below (J := fun _ => False) hb) id) (hm.below hb)
 have haw := fun key hk W (hb : Below w.heap.size w W) => at_any κ (k + 1) N1 c.old c.wrote hc.wrote key hk W (hT1.chg (Chg.of_below (J := fun _ => False) hb) id)
 have har := fun key hk W (hb : Below w.heap.size w W) => at_any κ (k + 3) N3 c.old c.read hc.read key hk W (hT3.chg (Chg.of_below (J := fun _ => False) hb) id)
 have hap := fun key hk W (hb : Below w.heap.size w W) => ptAt_any κ (k + 4) N4 c.old c.spans key hk W (hT4.chg (Chg.of_below (J := fun _ => False) hb) id)
 obtain ⟨R, hR⟩ : ∃ R, R = summaryP c m.s := ⟨_, rfl⟩
 rw [← hR]
 unfold summaryP at hR
 obtain ⟨O1, hO1⟩ : ∃ O1, O1 = overP c.wrote m.s := ⟨_, rfl⟩
 obtain ⟨O2, hO2⟩ : ∃ O2, O2 = overP c.wroteOut m.s := ⟨_, rfl⟩
 obtain ⟨WR, hWR⟩ : ∃ WR, WR = m.s.writes.foldl (writtenK c m.s) false := ⟨_, rfl⟩
 obtain ⟨MO, hMO⟩ : ∃ MO, MO = m.s.writes.foldl (mostK c) 0 := ⟨_, rfl⟩
 rw [← hO1] at how hR
 rw [← hO2] at hoo hR
 rw [← hWR, ← hMO] at hR
 obtain ⟨wa, hwa⟩ : ∃ wa, wa = m.wa := ⟨_, rfl⟩
 have hargs : m.args = Value.agg #[.int .i64 m.s.session, .int .i64 m.s.seq, .int .i64 m.s.snap, .slice m.ra m.s.reads.length m.rc, .slice m.sa m.s.spans.length m.sc, .slice wa m.s.writes.length m.wc] := by rw [hwa]; rfl
 have hrow := hm.writes
 rw [← hwa] at hrow
 rw [hargs] at how hoo ⊢
 have HROW := Lib.hid hrow
 have HOW := Lib.hid how
 have HOO := Lib.hid hoo
 have HAW := Lib.hid haw
 have HAR := Lib.hid har
 have HAP := Lib.hid hap
 have HR := Lib.hid hR
 have HWR := Lib.hid hWR
 have HMO := Lib.hid hMO
 have HM := Lib.hid hm
 clear how hoo hrow hargs hwa haw har hap hR hWR hMO hO1 hO2 hm hr hT1 hT2 hT3 hT4
 have hW1 : ∀ x ∈ m.s.writes, x < 18446744073709551616 := HM.out.words.writes
 have HW1 := Lib.hid hW1
 clear hW1
 obtain ⟨SES, hSES⟩ : ∃ SES, SES = m.s.session := ⟨_, rfl⟩
 unfold certCells at hA
 obtain ⟨Y, hY⟩ : ∃ Y, Y = (w.alloc (.cells #[.int .i64 m.s.session, .int .i64 m.s.seq, .int .i64 m.s.snap, .slice m.ra m.s.reads.length m.rc, .slice m.sa m.s.spans.length m.sc, .slice wa m.s.writes.length m.wc] 26)).alloc (.cells #[.bool false, .bool false, .int .i64 0, .int .i64 0] 73) := ⟨_, rfl⟩
 have hbY : Below w.heap.size w Y := hY ▸ below_alloc (below_alloc (Below.refl _ _) _) _
 have hYB : Y.heap[w.heap.size]? = some (.cells #[.int .i64 m.s.session, .int .i64 m.s.seq, .int .i64 m.s.snap, .slice m.ra m.s.reads.length m.rc, .slice m.sa m.s.spans.length m.sc, .slice wa m.s.writes.length m.wc] 26 (0, 0)) := hY ▸ alloc_keep (heap_alloc_new w _) _
 have hYL : Y.heap[w.heap.size + 1]? = some (.cells #[.bool false, .bool false, .int .i64 0, .int .i64 0] 73 (0, 0)) := hY ▸ alloc_new1 _ _ _
 have hkeep : ∀ Z : World, Below w.heap.size w Z → Z.heap[w.heap.size]? = some (.cells #[.int .i64 m.s.session, .int .i64 m.s.seq, .int .i64 m.s.snap, .slice m.ra m.s.reads.length m.rc, .slice m.sa m.s.spans.length m.sc, .slice wa m.s.writes.length m.wc] 26 (0, 0)) → (fun w' : World => w'.cell? ⟨A, 5, none⟩ = some (.pointer (some ⟨N1, 0, none⟩)) ∧ w'.cell? ⟨A, 6, none⟩ = some (.pointer (some ⟨N2, 0, none⟩)) ∧ w'.cell? ⟨A, 7, none⟩ = some (.pointer (some ⟨N3, 0, none⟩)) ∧ w'.cell? ⟨A, 8, none⟩ = some (.pointer (some ⟨N4, 0, none⟩)) ∧ w'.cell? ⟨w.heap.size, 0, none⟩ = some (.int .i64 m.s.session) ∧ w'.cell? ⟨w.heap.size, 1, none⟩ = some (.int .i64 m.s.seq) ∧ w'.cell? ⟨w.heap.size, 2, none⟩ = some (.int .i64 m.s.snap) ∧ w'.cell? ⟨w.heap.size, 3, none⟩ = some (.slice m.ra m.s.reads.length m.rc) ∧ w'.cell? ⟨w.heap.size, 4, none⟩ = some (.slice m.sa m.s.spans.length m.sc) ∧ w'.cell? ⟨w.heap.size, 5, none⟩ = some (.slice wa m.s.writes.length m.wc)) Z := fun Z hZ hB => by
  obtain ⟨c0, c1, c2, c3, c4, c5⟩ := six_cells hB
  obtain ⟨_, _, _, _, _, q5, q6, q7, q8⟩ := nine_cells ((hZ.block A (lt_of_block hA)).trans hA)
  exact ⟨q5, q6, q7, q8, c0, c1, c2, c3, c4, c5⟩
 have HKEEP := Lib.hid hkeep
 have HBY := Lib.hid hbY
 have HYB := Lib.hid hYB
 have HYL := Lib.hid hYL
 clear hkeep hbY hYB hYL hA hSES
 go_enter Tryz.func55, Tryz.ntmps55
 go_upto_region 1 with fail
 rw [← hY]
 clear hY
 go_cut [15] (fun s15 wx => s15 = .bool (decide (m.s.snap < O1)) ∧ Hid (Below w.heap.size w wx) ∧ Hid (wx.heap[w.heap.size]? = some (.cells #[.int .i64 m.s.session, .int .i64 m.s.seq, .int .i64 m.s.snap, .slice m.ra m.s.reads.length m.rc, .slice m.sa m.s.spans.length m.sc, .slice wa m.s.writes.length m.wc] 26 (0, 0))) ∧ Hid (wx.heap[w.heap.size + 1]? = some (.cells #[.bool false, .bool false, .int .i64 0, .int .i64 0] 73 (0, 0))))
 case first =>
  refine wp_region_noPanic ?_
  refine wp_region_held_drew (S := (fun w' => w'.cell? ⟨A, 5, none⟩ = some (.pointer (some ⟨N1, 0, none⟩)) ∧ w'.cell? ⟨A, 6, none⟩ = some (.pointer (some ⟨N2, 0, none⟩)) ∧ w'.cell? ⟨A, 7, none⟩ = some (.pointer (some ⟨N3, 0, none⟩)) ∧ w'.cell? ⟨A, 8, none⟩ = some (.pointer (some ⟨N4, 0, none⟩)) ∧ w'.cell? ⟨w.heap.size, 0, none⟩ = some (.int .i64 m.s.session) ∧ w'.cell? ⟨w.heap.size, 1, none⟩ = some (.int .i64 m.s.seq) ∧ w'.cell? ⟨w.heap.size, 2, none⟩ = some (.int .i64 m.s.snap) ∧ w'.cell? ⟨w.heap.size, 3, none⟩ = some (.slice m.ra m.s.reads.length m.rc) ∧ w'.cell? ⟨w.heap.size, 4, none⟩ = some (.slice m.sa m.s.spans.length m.sc) ∧ w'.cell? ⟨w.heap.size, 5, none⟩ = some (.slice wa m.s.writes.length m.wc))) (by kernel_rfl) ?_ (fun hHeld0 => ?_)
  · first | exact HKEEP.out _ (HBY.out.drew) (HYB.out) | exact HKEEP.out _ (HBY.out) (HYB.out) | exact HKEEP.out _ (HB1.out) (HBB1.out)
  refine wu 0 rfl ?_
  refine wu 1 rfl ?_
  refine wu 2 rfl ?_
  refine wu 3 rfl ?_
  refine wu 4 rfl ?_
  refine wu 6 rfl ?_
  refine wu 7 rfl ?_
  refine wy 5 rfl fun K hK => ?_
  go_simp
  refine (HOW.out _ HBY.out.drew).mono ?_
  rintro e w1 ⟨rfl, hb1⟩
  have HB1 : Hid (Below w.heap.size w w1) := below_then HBY.out.drew hb1
  have HBB1 : Hid (w1.heap[w.heap.size]? = _) := (hb1.block _ (lt_of_block HYB.out)).trans HYB.out
  have HL1 : Hid (w1.heap[w.heap.size + 1]? = _) := (hb1.block _ (lt_of_block HYL.out)).trans HYL.out
  have hs1 := hb1.size
  clear hb1
  go_wp2_with fail
  refine hK.out _ _ ?_ (fun hHeld1 => ?_)
  · first | exact HKEEP.out _ (HBY.out.drew) (HYB.out) | exact HKEEP.out _ (HBY.out) (HYB.out) | exact HKEEP.out _ (HB1.out) (HBB1.out)
  clear hK K hHeld0
  try simp only [Act.put, List.setIfInBounds_toArray, List.set]
  refine wu 8 rfl ?_
  refine wpAnyH_done (by kernel_rfl) ?_ _
  refine NoPanic.normal ?_
  go_wp2_with fail
  go_meet
  exact ⟨rfl, HB1, HBB1, HL1⟩
 case rest =>
 obtain ⟨rfl, HB1, HBB1, HL1⟩ := hcut
 obtain ⟨w1, hw1⟩ : ∃ w1, w1 = wc := ⟨_, rfl⟩
 rw [← hw1] at HB1 HBB1 HL1 ⊢
 clear hw1
 obtain ⟨LE, hLE⟩ : ∃ LE, LE = (if m.s.snap < O1 then m.s.snap + 1 else 0) := ⟨_, rfl⟩
 have HLE := Lib.hid hLE
 clear hLE
 go_upto_if 15 with fail
 go_cut [] (fun wx => Hid (Below w.heap.size w wx) ∧ Hid (wx.heap[w.heap.size]? = some (.cells #[.int .i64 m.s.session, .int .i64 m.s.seq, .int .i64 m.s.snap, .slice m.ra m.s.reads.length m.rc, .slice m.sa m.s.spans.length m.sc, .slice wa m.s.writes.length m.wc] 26 (0, 0))) ∧ Hid (wx.heap[w.heap.size + 1]? = some (.cells #[.bool false, .bool false, .int .i64 LE, .int .i64 0] 73 (0, 0))))
 case first =>
  by_cases h1 : m.s.snap < O1
  · have HIF : Hid (LE = m.s.snap + 1) := HLE.out.trans (if_pos h1)
    have f1 := (four_cells HL1.out).2.2.2.1
    have g1 := (four_cells HL1.out).1.2.2.1
    have c2 := (six_cells HBB1.out).2.2.1
    have hsb := lt_of_block HL1.out
    go_wp2_with fail
    go_meet
    exact ⟨below_set HB1.out _ (by omega), set_far HBB1.out (by omega), by rw [HIF.out]; exact set_block (i := 2) HL1.out _⟩
  · have HIF : Hid (LE = 0) := HLE.out.trans (if_neg h1)
    go_wp2_with fail
    go_meet
    exact ⟨HB1, HBB1, by rw [HIF.out]; exact HL1⟩
 case rest =>
 obtain ⟨HB2, HBB2, HL2⟩ := hcut
 obtain ⟨w2, hw2⟩ : ∃ w2, w2 = wc := ⟨_, rfl⟩
 rw [← hw2] at HB2 HBB2 HL2 ⊢
 clear hw2 HB1 HBB1 HL1
 obtain ⟨O2B, hO2B⟩ : ∃ O2B, O2B = decide (m.s.snap < O2) := ⟨_, rfl⟩
 have HDEC := Lib.hid hO2B
 clear hO2B
 go_upto_region 3 with fail
 go_cut [] (fun wx => Hid (Below w.heap.size w wx) ∧ Hid (wx.heap[w.heap.size]? = some (.cells #[.int .i64 m.s.session, .int .i64 m.s.seq, .int .i64 m.s.snap, .slice m.ra m.s.reads.length m.rc, .slice m.sa m.s.spans.length m.sc, .slice wa m.s.writes.length m.wc] 26 (0, 0))) ∧ Hid (wx.heap[w.heap.size + 1]? = some (.cells #[.bool false, .bool O2B, .int .i64 LE, .int .i64 0] 73 (0, 0))))
 case first =>
  refine wp_region_noPanic ?_
  refine wp_region_held_drew (S := (fun w' => w'.cell? ⟨A, 5, none⟩ = some (.pointer (some ⟨N1, 0, none⟩)) ∧ w'.cell? ⟨A, 6, none⟩ = some (.pointer (some ⟨N2, 0, none⟩)) ∧ w'.cell? ⟨A, 7, none⟩ = some (.pointer (some ⟨N3, 0, none⟩)) ∧ w'.cell? ⟨A, 8, none⟩ = some (.pointer (some ⟨N4, 0, none⟩)) ∧ w'.cell? ⟨w.heap.size, 0, none⟩ = some (.int .i64 m.s.session) ∧ w'.cell? ⟨w.heap.size, 1, none⟩ = some (.int .i64 m.s.seq) ∧ w'.cell? ⟨w.heap.size, 2, none⟩ = some (.int .i64 m.s.snap) ∧ w'.cell? ⟨w.heap.size, 3, none⟩ = some (.slice m.ra m.s.reads.length m.rc) ∧ w'.cell? ⟨w.heap.size, 4, none⟩ = some (.slice m.sa m.s.spans.length m.sc) ∧ w'.cell? ⟨w.heap.size, 5, none⟩ = some (.slice wa m.s.writes.length m.wc))) (by kernel_rfl) ?_ (fun hHeld0 => ?_)
  · first | exact HKEEP.out _ (HB2.out.drew) (HBB2.out) | exact HKEEP.out _ (HB2.out) (HBB2.out) | exact HKEEP.out _ (HB3.out) (HBB3.out) | exact HKEEP.out _ (below_set HB3.out _ (by omega)) (set_far HBB3.out (by omega))
  refine wu 0 rfl ?_
  refine wu 1 rfl ?_
  refine wu 2 rfl ?_
  refine wu 3 rfl ?_
  refine wu 4 rfl ?_
  refine wu 6 rfl ?_
  refine wu 7 rfl ?_
  refine wy 5 rfl fun K hK => ?_
  go_simp
  refine (HOO.out _ HB2.out.drew).mono ?_
  rintro e w3 ⟨rfl, hb3⟩
  have HB3 : Hid (Below w.heap.size w w3) := below_then HB2.out.drew hb3
  have HBB3 : Hid (w3.heap[w.heap.size]? = _) := (hb3.block _ (lt_of_block HBB2.out)).trans HBB2.out
  have HL3 : Hid (w3.heap[w.heap.size + 1]? = _) := (hb3.block _ (lt_of_block HL2.out)).trans HL2.out
  have hs3 := hb3.size
  clear hb3
  have f3 := (four_cells HL3.out).2.2.1
  have g3 := (four_cells HL3.out).1.2.1
  go_wp2_with fail
  refine hK.out _ _ ?_ (fun hHeld1 => ?_)
  · first | exact HKEEP.out _ (HB2.out.drew) (HBB2.out) | exact HKEEP.out _ (HB2.out) (HBB2.out) | exact HKEEP.out _ (HB3.out) (HBB3.out) | exact HKEEP.out _ (below_set HB3.out _ (by omega)) (set_far HBB3.out (by omega))
  clear hK K hHeld0
  try simp only [Act.put, List.setIfInBounds_toArray, List.set]
  refine wu 8 rfl ?_
  refine wu 9 rfl ?_
  refine wy 10 rfl fun K hK => ?_
  go_simp
  refine hK.out _ _ ?_ (fun hHeld2 => ?_)
  · first | exact HKEEP.out _ (HB2.out.drew) (HBB2.out) | exact HKEEP.out _ (HB2.out) (HBB2.out) | exact HKEEP.out _ (HB3.out) (HBB3.out) | exact HKEEP.out _ (below_set HB3.out _ (by omega)) (set_far HBB3.out (by omega))
  clear hK K hHeld1
  try simp only [Act.put, List.setIfInBounds_toArray, List.set]
  refine wpAnyH_done (by kernel_rfl) ?_ _
  refine NoPanic.normal ?_
  go_wp2_with fail
  go_meet
  exact ⟨below_set HB3.out _ (by omega), set_far HBB3.out (by omega), by rw [HDEC.out]; exact set_block (i := 1) HL3.out _⟩
 case rest =>
 obtain ⟨HB4, HBB4, HL4⟩ := hcut
 obtain ⟨w4, hw4⟩ : ∃ w4, w4 = wc := ⟨_, rfl⟩
 rw [← hw4] at HB4 HBB4 HL4 ⊢
 clear hw4 HB2 HBB2 HL2
 obtain ⟨_, _, _, _, _, d5⟩ := six_cells HBB4.out
 go_wp2_with fail
 clear d5
 go_loopg [33] m.s.writes.length (fun g s33 wx => ∃ (kk : Nat) (bw : Bool) (q : Int), s33 = .int .i64 kk ∧ kk ≤ m.s.writes.length ∧ g = m.s.writes.length - kk ∧ Hid (WR = (m.s.writes.drop kk).foldl (writtenK c m.s) bw) ∧ Hid (MO = (m.s.writes.drop kk).foldl (mostK c) q) ∧ Hid (Below w.heap.size w wx) ∧ Hid (wx.heap[w.heap.size]? = some (.cells #[.int .i64 m.s.session, .int .i64 m.s.seq, .int .i64 m.s.snap, .slice m.ra m.s.reads.length m.rc, .slice m.sa m.s.spans.length m.sc, .slice wa m.s.writes.length m.wc] 26 (0, 0))) ∧ Hid (wx.heap[w.heap.size + 1]? = some (.cells #[.bool bw, .bool O2B, .int .i64 LE, .int .i64 q] 73 (0, 0))))
 case atStart => exact ⟨0, false, 0, rfl, Nat.zero_le _, rfl, HWR.out, HMO.out, HB4, HBB4, HL4⟩
 case round =>
  obtain ⟨kk, bw, q, rfl, hkk, rfl, HWQ, HMQ, HBW, HBBW, HLW⟩ := hrel
  have hk0 : (0 : Int) ≤ (kk : Int) := by omega
  have hnat : ((kk : Int)).toNat = kk := by omega
  have hwB := lt_of_block HBBW.out
  have hwL := lt_of_block HLW.out
  by_cases hlt : kk < m.s.writes.length
  · obtain ⟨x, hx⟩ : ∃ x, m.s.writes[kk]? = some x := ⟨_, List.getElem?_eq_getElem hlt⟩
    have hxl := HW1.out x (List.mem_of_getElem? hx)
    obtain ⟨b, off, rfl, e0⟩ := float_at (HROW.out.below HBW.out) kk hlt x hx
    have hkn : (kk : Int) < (m.s.writes.length : Int) := by omega
    have hwq := HWQ.out
    rw [drop_at hx] at hwq
    have hmq := HMQ.out
    rw [drop_at hx] at hmq
    have HWQ2 : Hid (WR = (m.s.writes.drop (kk + 1)).foldl (writtenK c m.s) (bw || decide (m.s.snap < vAt c.wrote x))) := hwq
    have HMQ2 : Hid (MO = (m.s.writes.drop (kk + 1)).foldl (mostK c) (max (max q (vAt c.read x)) (pAtL x c.spans 0))) := hmq
    obtain ⟨V1, hV1⟩ : ∃ V1, V1 = vAt c.wrote x := ⟨_, rfl⟩
    obtain ⟨V2, hV2⟩ : ∃ V2, V2 = vAt c.read x := ⟨_, rfl⟩
    obtain ⟨V3, hV3⟩ : ∃ V3, V3 = pAtL x c.spans 0 := ⟨_, rfl⟩
    have ha1 := HAW.out x hxl
    have ha2 := HAR.out x hxl
    have ha3 := HAP.out x hxl
    rw [← hV1] at HWQ2 ha1
    rw [← hV2] at HMQ2 ha2
    rw [← hV3] at HMQ2 ha3
    have HA1 := Lib.hid ha1
    have HA2 := Lib.hid ha2
    have HA3 := Lib.hid ha3
    clear hx hwq hmq hV1 hV2 hV3 ha1 ha2 ha3 hxl
    go_upto_region 7 with fail
    clear e0
    obtain ⟨bv, hbv⟩ : ∃ bv, bv = (bw || decide (m.s.snap < V1)) := ⟨_, rfl⟩
    rw [← hbv] at HWQ2
    have HBV := Lib.hid hbv
    clear hbv
    go_cut [] (fun wx => Hid (Below w.heap.size w wx) ∧ Hid (wx.heap[w.heap.size]? = some (.cells #[.int .i64 m.s.session, .int .i64 m.s.seq, .int .i64 m.s.snap, .slice m.ra m.s.reads.length m.rc, .slice m.sa m.s.spans.length m.sc, .slice (some ⟨b, off, none⟩) m.s.writes.length m.wc] 26 (0, 0))) ∧ Hid (wx.heap[w.heap.size + 1]? = some (.cells #[.bool bv, .bool O2B, .int .i64 LE, .int .i64 q] 73 (0, 0))))
    case first =>
     have l0 := (four_cells (w := wr.drew) HLW.out).1.1
     have f0 := (four_cells (w := wr.drew) HLW.out).2.1
     cases bw with
     | true =>
       have HBV2 : Hid (bv = true) := HBV.out
       clear HBV
       refine wp_region_noPanic ?_
       refine wp_region_held_drew (S := (fun w' => w'.cell? ⟨A, 5, none⟩ = some (.pointer (some ⟨N1, 0, none⟩)) ∧ w'.cell? ⟨A, 6, none⟩ = some (.pointer (some ⟨N2, 0, none⟩)) ∧ w'.cell? ⟨A, 7, none⟩ = some (.pointer (some ⟨N3, 0, none⟩)) ∧ w'.cell? ⟨A, 8, none⟩ = some (.pointer (some ⟨N4, 0, none⟩)) ∧ w'.cell? ⟨w.heap.size, 0, none⟩ = some (.int .i64 m.s.session) ∧ w'.cell? ⟨w.heap.size, 1, none⟩ = some (.int .i64 m.s.seq) ∧ w'.cell? ⟨w.heap.size, 2, none⟩ = some (.int .i64 m.s.snap) ∧ w'.cell? ⟨w.heap.size, 3, none⟩ = some (.slice m.ra m.s.reads.length m.rc) ∧ w'.cell? ⟨w.heap.size, 4, none⟩ = some (.slice m.sa m.s.spans.length m.sc) ∧ w'.cell? ⟨w.heap.size, 5, none⟩ = some (.slice (some ⟨b, off, none⟩) m.s.writes.length m.wc))) (by kernel_rfl) ?_ (fun hHeld0 => ?_)
       · first | exact HKEEP.out _ (HBW.out.drew) (HBBW.out) | exact HKEEP.out _ (HBW.out) (HBBW.out) | exact HKEEP.out _ (HB6.out) (HBB6.out) | exact HKEEP.out _ (below_set HBW.out.drew _ (by omega)) (set_far (w := wr.drew) HBBW.out (by omega)) | exact HKEEP.out _ (below_set HB6.out _ (by omega)) (set_far HBB6.out (by omega))
       refine wu 0 rfl ?_
       refine wy 1 rfl fun K hK => ?_
       go_simp
       refine hK.out _ _ ?_ (fun hHeld1 => ?_)
       · first | exact HKEEP.out _ (HBW.out.drew) (HBBW.out) | exact HKEEP.out _ (HBW.out) (HBBW.out) | exact HKEEP.out _ (HB6.out) (HBB6.out) | exact HKEEP.out _ (below_set HBW.out.drew _ (by omega)) (set_far (w := wr.drew) HBBW.out (by omega)) | exact HKEEP.out _ (below_set HB6.out _ (by omega)) (set_far HBB6.out (by omega))
       clear hK K hHeld0
       try simp only [Act.put, List.setIfInBounds_toArray, List.set]
       refine wu 2 rfl ?_
       refine wv 3 rfl ?_
       refine wv 4 rfl ?_
       refine wv 5 rfl ?_
       refine wv 6 rfl ?_
       refine wv 7 rfl ?_
       refine wv 8 rfl ?_
       refine wv 9 rfl ?_
       refine wv 10 rfl ?_
       refine wpAnyH_take (i := 11) (oi := _) (v := undef) rfl (by kernel_rfl) (by kernel_rfl) (by kernel_rfl) (fun _ _ _ h => h) (Or.inr ⟨by kernel_rfl, rfl⟩) (by assumption) ?_
       (try simp only [List.getElem_toArray]); (try simp only [List.getElem_cons_succ]); (try simp only [List.getElem_cons_zero]); try simp only [Act.put, List.setIfInBounds_toArray, List.set]
       refine wu 12 rfl ?_
       refine wu 13 rfl ?_
       refine wy 14 rfl fun K hK => ?_
       go_simp
       refine hK.out _ _ ?_ (fun hHeld2 => ?_)
       · first | exact HKEEP.out _ (HBW.out.drew) (HBBW.out) | exact HKEEP.out _ (HBW.out) (HBBW.out) | exact HKEEP.out _ (HB6.out) (HBB6.out) | exact HKEEP.out _ (below_set HBW.out.drew _ (by omega)) (set_far (w := wr.drew) HBBW.out (by omega)) | exact HKEEP.out _ (below_set HB6.out _ (by omega)) (set_far HBB6.out (by omega))
       clear hK K hHeld1
       try simp only [Act.put, List.setIfInBounds_toArray, List.set]
       refine wpAnyH_done (by kernel_rfl) ?_ _
       refine NoPanic.normal ?_
       go_wp2_with fail
       go_meet
       exact ⟨below_set HBW.out.drew _ (by omega), set_far (w := wr.drew) HBBW.out (by omega), by rw [HBV2.out]; exact set_block (w := wr.drew) (i := 0) HLW.out _⟩
     | false =>
       have HBV2 : Hid (bv = decide (m.s.snap < V1)) := HBV.out
       clear HBV
       refine wp_region_noPanic ?_
       refine wp_region_held_drew (S := (fun w' => w'.cell? ⟨A, 5, none⟩ = some (.pointer (some ⟨N1, 0, none⟩)) ∧ w'.cell? ⟨A, 6, none⟩ = some (.pointer (some ⟨N2, 0, none⟩)) ∧ w'.cell? ⟨A, 7, none⟩ = some (.pointer (some ⟨N3, 0, none⟩)) ∧ w'.cell? ⟨A, 8, none⟩ = some (.pointer (some ⟨N4, 0, none⟩)) ∧ w'.cell? ⟨w.heap.size, 0, none⟩ = some (.int .i64 m.s.session) ∧ w'.cell? ⟨w.heap.size, 1, none⟩ = some (.int .i64 m.s.seq) ∧ w'.cell? ⟨w.heap.size, 2, none⟩ = some (.int .i64 m.s.snap) ∧ w'.cell? ⟨w.heap.size, 3, none⟩ = some (.slice m.ra m.s.reads.length m.rc) ∧ w'.cell? ⟨w.heap.size, 4, none⟩ = some (.slice m.sa m.s.spans.length m.sc) ∧ w'.cell? ⟨w.heap.size, 5, none⟩ = some (.slice (some ⟨b, off, none⟩) m.s.writes.length m.wc))) (by kernel_rfl) ?_ (fun hHeld0 => ?_)
       · first | exact HKEEP.out _ (HBW.out.drew) (HBBW.out) | exact HKEEP.out _ (HBW.out) (HBBW.out) | exact HKEEP.out _ (HB6.out) (HBB6.out) | exact HKEEP.out _ (below_set HBW.out.drew _ (by omega)) (set_far (w := wr.drew) HBBW.out (by omega)) | exact HKEEP.out _ (below_set HB6.out _ (by omega)) (set_far HBB6.out (by omega))
       refine wu 0 rfl ?_
       refine wy 1 rfl fun K hK => ?_
       go_simp
       refine hK.out _ _ ?_ (fun hHeld1 => ?_)
       · first | exact HKEEP.out _ (HBW.out.drew) (HBBW.out) | exact HKEEP.out _ (HBW.out) (HBBW.out) | exact HKEEP.out _ (HB6.out) (HBB6.out) | exact HKEEP.out _ (below_set HBW.out.drew _ (by omega)) (set_far (w := wr.drew) HBBW.out (by omega)) | exact HKEEP.out _ (below_set HB6.out _ (by omega)) (set_far HBB6.out (by omega))
       clear hK K hHeld0
       try simp only [Act.put, List.setIfInBounds_toArray, List.set]
       refine wu 2 rfl ?_
       refine wu 3 rfl ?_
       refine wu 4 rfl ?_
       refine wu 5 rfl ?_
       refine wu 6 rfl ?_
       refine wu 7 rfl ?_
       refine wu 9 rfl ?_
       refine wu 10 rfl ?_
       refine wy 8 rfl fun K hK => ?_
       go_simp
       refine (HA1.out _ HBW.out.drew).mono ?_
       rintro e w6 ⟨rfl, hb6⟩
       have HB6 : Hid (Below w.heap.size w w6) := below_then HBW.out.drew hb6
       have HBB6 : Hid (w6.heap[w.heap.size]? = _) := (hb6.block _ (lt_of_block HBBW.out)).trans HBBW.out
       have HL6 : Hid (w6.heap[w.heap.size + 1]? = _) := (hb6.block _ (lt_of_block HLW.out)).trans HLW.out
       have hs6 := hb6.size
       clear hb6
       have f6 := (four_cells HL6.out).2.1
       have g6 := (four_cells HL6.out).1.1
       go_wp2_with fail
       refine hK.out _ _ ?_ (fun hHeld2 => ?_)
       · first | exact HKEEP.out _ (HBW.out.drew) (HBBW.out) | exact HKEEP.out _ (HBW.out) (HBBW.out) | exact HKEEP.out _ (HB6.out) (HBB6.out) | exact HKEEP.out _ (below_set HBW.out.drew _ (by omega)) (set_far (w := wr.drew) HBBW.out (by omega)) | exact HKEEP.out _ (below_set HB6.out _ (by omega)) (set_far HBB6.out (by omega))
       clear hK K hHeld1
       try simp only [Act.put, List.setIfInBounds_toArray, List.set]
       refine wu 11 rfl ?_
       refine wu 12 rfl ?_
       refine wu 13 rfl ?_
       refine wy 14 rfl fun K hK => ?_
       go_simp
       refine hK.out _ _ ?_ (fun hHeld3 => ?_)
       · first | exact HKEEP.out _ (HBW.out.drew) (HBBW.out) | exact HKEEP.out _ (HBW.out) (HBBW.out) | exact HKEEP.out _ (HB6.out) (HBB6.out) | exact HKEEP.out _ (below_set HBW.out.drew _ (by omega)) (set_far (w := wr.drew) HBBW.out (by omega)) | exact HKEEP.out _ (below_set HB6.out _ (by omega)) (set_far HBB6.out (by omega))
       clear hK K hHeld2
       try simp only [Act.put, List.setIfInBounds_toArray, List.set]
       refine wpAnyH_done (by kernel_rfl) ?_ _
       refine NoPanic.normal ?_
       go_wp2_with fail
       go_meet
       exact ⟨below_set HB6.out _ (by omega), set_far HBB6.out (by omega), by rw [HBV2.out]; exact set_block (i := 0) HL6.out _⟩
    case rest =>
    obtain ⟨HB7, HBB7, HL7⟩ := hcut
    obtain ⟨w7, hw7⟩ : ∃ w7, w7 = wc := ⟨_, rfl⟩
    rw [← hw7] at HB7 HBB7 HL7 ⊢
    clear hw7 HBW HBBW HLW HBV
    have hwB := lt_of_block HBB7.out
    have hwL := lt_of_block HL7.out
    go_upto_region 8 with fail
    obtain ⟨q2, hq2⟩ : ∃ q2, q2 = max (max q V2) V3 := ⟨_, rfl⟩
    rw [← hq2] at HMQ2
    have HQ2 := Lib.hid hq2
    clear hq2
    have l7 := (four_cells (w := w7.drew) HL7.out).1.2.2.2
    refine wp_region_noPanic ?_
    refine wp_region_held_drew (S := (fun w' => w'.cell? ⟨A, 5, none⟩ = some (.pointer (some ⟨N1, 0, none⟩)) ∧ w'.cell? ⟨A, 6, none⟩ = some (.pointer (some ⟨N2, 0, none⟩)) ∧ w'.cell? ⟨A, 7, none⟩ = some (.pointer (some ⟨N3, 0, none⟩)) ∧ w'.cell? ⟨A, 8, none⟩ = some (.pointer (some ⟨N4, 0, none⟩)) ∧ w'.cell? ⟨w.heap.size, 0, none⟩ = some (.int .i64 m.s.session) ∧ w'.cell? ⟨w.heap.size, 1, none⟩ = some (.int .i64 m.s.seq) ∧ w'.cell? ⟨w.heap.size, 2, none⟩ = some (.int .i64 m.s.snap) ∧ w'.cell? ⟨w.heap.size, 3, none⟩ = some (.slice m.ra m.s.reads.length m.rc) ∧ w'.cell? ⟨w.heap.size, 4, none⟩ = some (.slice m.sa m.s.spans.length m.sc) ∧ w'.cell? ⟨w.heap.size, 5, none⟩ = some (.slice (some ⟨b, off, none⟩) m.s.writes.length m.wc))) (by kernel_rfl) ?_ (fun hHeld0 => ?_)
    · first | exact HKEEP.out _ (HB7.out.drew) (HBB7.out) | exact HKEEP.out _ (HB7.out) (HBB7.out) | exact HKEEP.out _ (HB8.out) (HBB8.out) | exact HKEEP.out _ (HB9.out) (HBB9.out) | exact HKEEP.out _ (below_set HB9.out _ (by omega)) (set_far HBB9.out (by omega))
    refine wu 0 rfl ?_
    refine wu 2 rfl ?_
    refine wu 3 rfl ?_
    refine wu 4 rfl ?_
    refine wu 5 rfl ?_
    refine wu 6 rfl ?_
    refine wu 8 rfl ?_
    refine wu 9 rfl ?_
    refine wu 10 rfl ?_
    refine wu 11 rfl ?_
    refine wu 12 rfl ?_
    refine wz 1 7 rfl (fun K hK => ?_) rfl fun K hK => ?_
    · skip
      go_simp
      refine hK.out _ _ ?_ (fun hHeld1 => ?_)
      · first | exact HKEEP.out _ (HB7.out.drew) (HBB7.out) | exact HKEEP.out _ (HB7.out) (HBB7.out) | exact HKEEP.out _ (HB8.out) (HBB8.out) | exact HKEEP.out _ (HB9.out) (HBB9.out) | exact HKEEP.out _ (below_set HB9.out _ (by omega)) (set_far HBB9.out (by omega))
      clear hK K hHeld0
      try simp only [Act.put, List.setIfInBounds_toArray, List.set]
      refine wy 7 rfl fun K hK => ?_
      go_simp
      refine (HA2.out _ HB7.out.drew).mono ?_
      rintro e w8 ⟨rfl, hb8⟩
      have HB8 : Hid (Below w.heap.size w w8) := below_then HB7.out.drew hb8
      have HBB8 : Hid (w8.heap[w.heap.size]? = _) := (hb8.block _ (lt_of_block HBB7.out)).trans HBB7.out
      have HL8 : Hid (w8.heap[w.heap.size + 1]? = _) := (hb8.block _ (lt_of_block HL7.out)).trans HL7.out
      have hs8 := hb8.size
      clear hb8
      have l8 := (four_cells HL8.out).1.2.2.2
      go_wp2_with fail
      refine hK.out _ _ ?_ (fun hHeld2 => ?_)
      · first | exact HKEEP.out _ (HB7.out.drew) (HBB7.out) | exact HKEEP.out _ (HB7.out) (HBB7.out) | exact HKEEP.out _ (HB8.out) (HBB8.out) | exact HKEEP.out _ (HB9.out) (HBB9.out) | exact HKEEP.out _ (below_set HB9.out _ (by omega)) (set_far HBB9.out (by omega))
      clear hK K hHeld1
      try simp only [Act.put, List.setIfInBounds_toArray, List.set]
      refine wy 13 rfl fun K hK => ?_
      go_simp
      refine (HA3.out _ HB8.out).mono ?_
      rintro e w9 ⟨rfl, hb9⟩
      have HB9 : Hid (Below w.heap.size w w9) := below_then HB8.out hb9
      have HBB9 : Hid (w9.heap[w.heap.size]? = _) := (hb9.block _ (lt_of_block HBB8.out)).trans HBB8.out
      have HL9 : Hid (w9.heap[w.heap.size + 1]? = _) := (hb9.block _ (lt_of_block HL8.out)).trans HL8.out
      have hs9 := hb9.size
      clear hb9
      have l9 := (four_cells HL9.out).1.2.2.2
      have f9 := (four_cells HL9.out).2.2.2.2
      go_wp2_with fail
      refine hK.out _ _ ?_ (fun hHeld3 => ?_)
      · first | exact HKEEP.out _ (HB7.out.drew) (HBB7.out) | exact HKEEP.out _ (HB7.out) (HBB7.out) | exact HKEEP.out _ (HB8.out) (HBB8.out) | exact HKEEP.out _ (HB9.out) (HBB9.out) | exact HKEEP.out _ (below_set HB9.out _ (by omega)) (set_far HBB9.out (by omega))
      clear hK K hHeld2
      try simp only [Act.put, List.setIfInBounds_toArray, List.set]
      refine wu 14 rfl ?_
      refine wu 15 rfl ?_
      refine wy 16 rfl fun K hK => ?_
      go_simp
      refine hK.out _ _ ?_ (fun hHeld4 => ?_)
      · first | exact HKEEP.out _ (HB7.out.drew) (HBB7.out) | exact HKEEP.out _ (HB7.out) (HBB7.out) | exact HKEEP.out _ (HB8.out) (HBB8.out) | exact HKEEP.out _ (HB9.out) (HBB9.out) | exact HKEEP.out _ (below_set HB9.out _ (by omega)) (set_far HBB9.out (by omega))
      clear hK K hHeld3
      try simp only [Act.put, List.setIfInBounds_toArray, List.set]
      refine wpAnyH_done (by kernel_rfl) ?_ _
      refine NoPanic.normal ?_
      go_wp2_with fail
      all_goals (go_roundg (m.s.writes.length - (kk + 1)); (case measure => omega); (case rel => exact ⟨kk + 1, bv, q2, by go_num, by omega, rfl, HWQ2.out, HMQ2.out, below_set HB9.out _ (by omega), set_far HBB9.out (by omega), look_set3 HL9.out (by have := HQ2.out; omega)⟩))
    · skip
      go_simp
      refine (HA2.out _ HB7.out.drew).mono ?_
      rintro e w8 ⟨rfl, hb8⟩
      have HB8 : Hid (Below w.heap.size w w8) := below_then HB7.out.drew hb8
      have HBB8 : Hid (w8.heap[w.heap.size]? = _) := (hb8.block _ (lt_of_block HBB7.out)).trans HBB7.out
      have HL8 : Hid (w8.heap[w.heap.size + 1]? = _) := (hb8.block _ (lt_of_block HL7.out)).trans HL7.out
      have hs8 := hb8.size
      clear hb8
      have l8 := (four_cells HL8.out).1.2.2.2
      go_wp2_with fail
      refine hK.out _ _ ?_ (fun hHeld5 => ?_)
      · first | exact HKEEP.out _ (HB7.out.drew) (HBB7.out) | exact HKEEP.out _ (HB7.out) (HBB7.out) | exact HKEEP.out _ (HB8.out) (HBB8.out) | exact HKEEP.out _ (HB9.out) (HBB9.out) | exact HKEEP.out _ (below_set HB9.out _ (by omega)) (set_far HBB9.out (by omega))
      clear hK K hHeld0
      try simp only [Act.put, List.setIfInBounds_toArray, List.set]
      refine wz 1 13 rfl (fun K hK => ?_) rfl fun K hK => ?_
      · skip
        go_simp
        refine hK.out _ _ ?_ (fun hHeld6 => ?_)
        · first | exact HKEEP.out _ (HB7.out.drew) (HBB7.out) | exact HKEEP.out _ (HB7.out) (HBB7.out) | exact HKEEP.out _ (HB8.out) (HBB8.out) | exact HKEEP.out _ (HB9.out) (HBB9.out) | exact HKEEP.out _ (below_set HB9.out _ (by omega)) (set_far HBB9.out (by omega))
        clear hK K hHeld5
        try simp only [Act.put, List.setIfInBounds_toArray, List.set]
        refine wy 13 rfl fun K hK => ?_
        go_simp
        refine (HA3.out _ HB8.out).mono ?_
        rintro e w9 ⟨rfl, hb9⟩
        have HB9 : Hid (Below w.heap.size w w9) := below_then HB8.out hb9
        have HBB9 : Hid (w9.heap[w.heap.size]? = _) := (hb9.block _ (lt_of_block HBB8.out)).trans HBB8.out
        have HL9 : Hid (w9.heap[w.heap.size + 1]? = _) := (hb9.block _ (lt_of_block HL8.out)).trans HL8.out
        have hs9 := hb9.size
        clear hb9
        have l9 := (four_cells HL9.out).1.2.2.2
        have f9 := (four_cells HL9.out).2.2.2.2
        go_wp2_with fail
        refine hK.out _ _ ?_ (fun hHeld7 => ?_)
        · first | exact HKEEP.out _ (HB7.out.drew) (HBB7.out) | exact HKEEP.out _ (HB7.out) (HBB7.out) | exact HKEEP.out _ (HB8.out) (HBB8.out) | exact HKEEP.out _ (HB9.out) (HBB9.out) | exact HKEEP.out _ (below_set HB9.out _ (by omega)) (set_far HBB9.out (by omega))
        clear hK K hHeld6
        try simp only [Act.put, List.setIfInBounds_toArray, List.set]
        refine wu 14 rfl ?_
        refine wu 15 rfl ?_
        refine wy 16 rfl fun K hK => ?_
        go_simp
        refine hK.out _ _ ?_ (fun hHeld8 => ?_)
        · first | exact HKEEP.out _ (HB7.out.drew) (HBB7.out) | exact HKEEP.out _ (HB7.out) (HBB7.out) | exact HKEEP.out _ (HB8.out) (HBB8.out) | exact HKEEP.out _ (HB9.out) (HBB9.out) | exact HKEEP.out _ (below_set HB9.out _ (by omega)) (set_far HBB9.out (by omega))
        clear hK K hHeld7
        try simp only [Act.put, List.setIfInBounds_toArray, List.set]
        refine wpAnyH_done (by kernel_rfl) ?_ _
        refine NoPanic.normal ?_
        go_wp2_with fail
        all_goals (go_roundg (m.s.writes.length - (kk + 1)); (case measure => omega); (case rel => exact ⟨kk + 1, bv, q2, by go_num, by omega, rfl, HWQ2.out, HMQ2.out, below_set HB9.out _ (by omega), set_far HBB9.out (by omega), look_set3 HL9.out (by have := HQ2.out; omega)⟩))
      · skip
        go_simp
        refine (HA3.out _ HB8.out).mono ?_
        rintro e w9 ⟨rfl, hb9⟩
        have HB9 : Hid (Below w.heap.size w w9) := below_then HB8.out hb9
        have HBB9 : Hid (w9.heap[w.heap.size]? = _) := (hb9.block _ (lt_of_block HBB8.out)).trans HBB8.out
        have HL9 : Hid (w9.heap[w.heap.size + 1]? = _) := (hb9.block _ (lt_of_block HL8.out)).trans HL8.out
        have hs9 := hb9.size
        clear hb9
        have l9 := (four_cells HL9.out).1.2.2.2
        have f9 := (four_cells HL9.out).2.2.2.2
        go_wp2_with fail
        refine hK.out _ _ ?_ (fun hHeld9 => ?_)
        · first | exact HKEEP.out _ (HB7.out.drew) (HBB7.out) | exact HKEEP.out _ (HB7.out) (HBB7.out) | exact HKEEP.out _ (HB8.out) (HBB8.out) | exact HKEEP.out _ (HB9.out) (HBB9.out) | exact HKEEP.out _ (below_set HB9.out _ (by omega)) (set_far HBB9.out (by omega))
        clear hK K hHeld5
        try simp only [Act.put, List.setIfInBounds_toArray, List.set]
        refine wy 1 rfl fun K hK => ?_
        go_simp
        refine hK.out _ _ ?_ (fun hHeld10 => ?_)
        · first | exact HKEEP.out _ (HB7.out.drew) (HBB7.out) | exact HKEEP.out _ (HB7.out) (HBB7.out) | exact HKEEP.out _ (HB8.out) (HBB8.out) | exact HKEEP.out _ (HB9.out) (HBB9.out) | exact HKEEP.out _ (below_set HB9.out _ (by omega)) (set_far HBB9.out (by omega))
        clear hK K hHeld9
        try simp only [Act.put, List.setIfInBounds_toArray, List.set]
        refine wu 14 rfl ?_
        refine wu 15 rfl ?_
        refine wy 16 rfl fun K hK => ?_
        go_simp
        refine hK.out _ _ ?_ (fun hHeld11 => ?_)
        · first | exact HKEEP.out _ (HB7.out.drew) (HBB7.out) | exact HKEEP.out _ (HB7.out) (HBB7.out) | exact HKEEP.out _ (HB8.out) (HBB8.out) | exact HKEEP.out _ (HB9.out) (HBB9.out) | exact HKEEP.out _ (below_set HB9.out _ (by omega)) (set_far HBB9.out (by omega))
        clear hK K hHeld10
        try simp only [Act.put, List.setIfInBounds_toArray, List.set]
        refine wpAnyH_done (by kernel_rfl) ?_ _
        refine NoPanic.normal ?_
        go_wp2_with fail
        all_goals (go_roundg (m.s.writes.length - (kk + 1)); (case measure => omega); (case rel => exact ⟨kk + 1, bv, q2, by go_num, by omega, rfl, HWQ2.out, HMQ2.out, below_set HB9.out _ (by omega), set_far HBB9.out (by omega), look_set3 HL9.out (by have := HQ2.out; omega)⟩))
  · obtain rfl : kk = m.s.writes.length := by omega
    have hwq := HWQ.out
    rw [List.drop_of_length_le (Nat.le_refl _)] at hwq
    have hmq := HMQ.out
    rw [List.drop_of_length_le (Nat.le_refl _)] at hmq
    have HW5 : Hid (WR = bw) := hwq
    have HM5 : Hid (MO = q) := hmq
    obtain ⟨⟨l0, l1, l2, l3⟩, f0, f1, f2, f3⟩ := four_cells HLW.out
    have c2 := (six_cells HBBW.out).2.2.1
    clear hwq hmq
    by_cases hq : q ≤ m.s.snap
    · go_wp2_with fail
      have hb := below_set4 (below_set HBW.out (g := w.heap.size + 1) (i := 3) (.int .i64 0) (by omega)) (B := w.heap.size + 1) (by omega) (.bool bw) (.bool O2B) (.int .i64 LE) (.int .i64 0)
      refine bodyPost_ret (results_cell Tryz.results55 rfl (load_look (set4 (set_block (i := 3) HLW.out (.int .i64 0)) (.bool bw) (.bool O2B) (.int .i64 LE) (.int .i64 0)))) rfl ⟨?_, hb⟩
      rw [HR.out, HW5.out, HM5.out, if_pos hq, ← HLE.out, ← HDEC.out]; rfl
    · go_wp2_with fail
      have hb := below_set4 HBW.out (B := w.heap.size + 1) (by omega) (.bool bw) (.bool O2B) (.int .i64 LE) (.int .i64 q)
      refine bodyPost_ret (results_cell Tryz.results55 rfl (load_look (set4 HLW.out (.bool bw) (.bool O2B) (.int .i64 LE) (.int .i64 q)))) rfl ⟨?_, hb⟩
      rw [HR.out, HW5.out, HM5.out, if_neg (show ¬ q ≤ m.s.snap by omega), ← HLE.out, ← HDEC.out]; rfl
end Go.Proofs.YtpknmfmpiachkaaGreat
