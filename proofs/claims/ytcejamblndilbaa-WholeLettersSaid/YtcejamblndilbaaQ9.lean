/- The document's Right of messages. -/
import Derived.Test.YtcejamblndilbaaQ8
import Derived.Deep.RegionHeld3
namespace Go.Proofs.Ytcejamblndilbaa
open Go.RowKit

theorem quiet_b {P : Program} {f : FuncId} {args : Array Value} {w : World} {x : Nat} {v : Value} (h : Calls P f args (w.drewN x) (RetQuiet (w.drewN x) v)) : Calls P f args (w.drewN x) fun e w'' => e = .returned v ∧ ∃ n, w'' = w.drewN n :=
  h.mono fun e w'' ⟨h1, m, h2⟩ => ⟨h1, x + m, by rw [h2]; simp⟩
theorem onlyOf_ok {w : World} {m : Ms} (h : MsOk w m) : MsOk w (onlyOf m) := by
  have hz : MsOk w zeroM := (zeroM_own w 0).ok
  have hb : MsOk w (bareOf m) := ⟨hz.row, hz.len, hz.ents, hz.ecap, hz.data, hz.cv, hz.cl⟩
  unfold onlyOf
  split
  · exact ⟨hb.row, hb.len, hb.ents, hb.ecap, hb.data, hb.cv, hb.cl⟩
  split
  · exact ⟨hb.row, hb.len, hb.ents, hb.ecap, hb.data, hb.cv, hb.cl⟩
  split
  · exact ⟨h.row, h.len, h.ents, h.ecap, hb.data, hb.cv, hb.cl⟩
  split
  · exact ⟨hb.row, hb.len, hb.ents, hb.ecap, hb.data, hb.cv, hb.cl⟩
  split
  · exact ⟨hb.row, hb.len, hb.ents, hb.ecap, h.data, h.cv, h.cl⟩
  split
  · exact ⟨hb.row, hb.len, hb.ents, hb.ecap, hb.data, hb.cv, hb.cl⟩
  · exact hb

set_option maxRecDepth 100000 in
set_option maxHeartbeats 32000000 in
theorem rright17_any (m : Ms) (w : World) (hm : MsOk w m) (hcl : CLen m) :
    Calls Try.prog 14 #[.agg m.cs] w (RetBox w (.bool (rightM m))) := by
  have hdoc := right_doc hm
  obtain ⟨v, hv⟩ : ∃ v, v = rightM m := ⟨_, rfl⟩
  rw [← hv] at hdoc ⊢
  obtain ⟨post, hpost⟩ : ∃ post : Ending → World → Prop, post = RetBox w (.bool v) := ⟨_, rfl⟩
  rw [← hpost]
  have hno : ∀ w', ¬ DocR m → Below w.heap.size w w' → post (.returned (.bool false)) w' := fun w' h hb => by
    have : v = false := by
      cases v
      · rfl
      · exact absurd (hdoc.1 rfl) h
    rw [hpost, this]; exact ⟨rfl, hb⟩
  have hyes : ∀ w', DocR m → Below w.heap.size w w' → post (.returned (.bool true)) w' := fun w' h hb => by
    have : v = true := hdoc.2 h
    rw [hpost, this]; exact ⟨rfl, hb⟩
  obtain ⟨X, hX⟩ : ∃ X, X = w.alloc (.cells m.cs 28) := ⟨_, rfl⟩
  have hXb : Below w.heap.size w X := hX ▸ below_alloc (Below.refl _ _) _
  have hs : X.heap.size = w.heap.size + 1 := by rw [hX, World.size_alloc]
  have hA : X.heap[w.heap.size]? = some (.cells m.cs 28 (0, 0)) := hX ▸ heap_alloc_new w _
  have hce : ∀ Z, Below X.heap.size X Z → Z.heap[w.heap.size]? = some (.cells m.cs 28 (0, 0)) := fun Z hZ => (hZ.block _ (by omega)).trans hA
  have hmX := hm.below hXb
  have honly := fun Z => only_any m Z
  have hequal := fun Z (hZ : Below X.heap.size X Z) => requal_any m (onlyOf m) Z (hmX.below hZ) (onlyOf_ok (hmX.below hZ)) hcl
  have hconf := fun Z (hZ : Below X.heap.size X Z) => rright15_any m.c Z (hmX.below hZ).cf hcl
  have hen : m.en ≤ 9223372036854775807 := by have := hm.ecap; simp only [maxLen] at this; omega
  have hdl : m.d.len ≤ 9223372036854775807 := by have := hm.data.2; simp only [maxLen] at this; omega
  have HNO := Lib.hid hno
  have HYES := Lib.hid hyes
  have HX := Lib.hid hX
  have HXB := Lib.hid hXb
  have HS := Lib.hid hs
  have HCE := Lib.hid hce
  have HM := Lib.hid hmX
  have HONLY := Lib.hid honly
  have HEQ := Lib.hid hequal
  have HCONF := Lib.hid hconf
  clear hno hyes hX hXb hs hA hce hmX honly hequal hconf hm hcl hdoc hv hpost
  obtain ⟨kind, fr, tt, term, index, logTerm, commit, ok, ea, en, ecap, es, off, d, last, c⟩ := m
  simp only [Ms.cs] at HX hen hdl ⊢
  go_enter Try.func14, Try.ntmps14
  go_upto_region 1 with fail
  rw [← HX.out]
  obtain ⟨b0, b1, b2, b3, b4, b5, b6, b7, b8, b9, b10, b11, b12, b13⟩ := ms_cells (HCE.out _ (Below.refl _ _))
  simp only at b0 b1 b2 b3 b4 b5 b6 b7 b8 b9 b10 b11 b12 b13
  by_cases t0 : kind < 1
  · have hn : ¬ DocR ⟨kind, fr, tt, term, index, logTerm, commit, ok, ea, en, ecap, es, off, d, last, c⟩ := fun h => by have h1 : 1 ≤ kind ∧ kind ≤ 8 := h.k; omega
    have HN := Lib.hid hn
    clear hn
    go_quiet (fail)
    go_wp2_with fail
    exact HNO.out _ HN.out (below_then HXB.out (below_drewN (Below.refl _ _) _))
  by_cases t1 : 8 < kind
  · have hn : ¬ DocR ⟨kind, fr, tt, term, index, logTerm, commit, ok, ea, en, ecap, es, off, d, last, c⟩ := fun h => by have h1 : 1 ≤ kind ∧ kind ≤ 8 := h.k; omega
    have HN := Lib.hid hn
    clear hn
    go_quiet (fail)
    go_wp2_with fail
    exact HNO.out _ HN.out (below_then HXB.out (below_drewN (Below.refl _ _) _))
  by_cases t2 : fr < 1
  · have hn : ¬ DocR ⟨kind, fr, tt, term, index, logTerm, commit, ok, ea, en, ecap, es, off, d, last, c⟩ := fun h => by have h1 : 1 ≤ fr ∧ fr ≤ 7 := h.f; omega
    have HN := Lib.hid hn
    clear hn
    go_quiet (fail)
    go_wp2_with fail
    exact HNO.out _ HN.out (below_then HXB.out (below_drewN (Below.refl _ _) _))
  by_cases t3 : 7 < fr
  · have hn : ¬ DocR ⟨kind, fr, tt, term, index, logTerm, commit, ok, ea, en, ecap, es, off, d, last, c⟩ := fun h => by have h1 : 1 ≤ fr ∧ fr ≤ 7 := h.f; omega
    have HN := Lib.hid hn
    clear hn
    go_quiet (fail)
    go_wp2_with fail
    exact HNO.out _ HN.out (below_then HXB.out (below_drewN (Below.refl _ _) _))
  by_cases t4 : tt < 1
  · have hn : ¬ DocR ⟨kind, fr, tt, term, index, logTerm, commit, ok, ea, en, ecap, es, off, d, last, c⟩ := fun h => by have h1 : 1 ≤ tt ∧ tt ≤ 7 := h.t; omega
    have HN := Lib.hid hn
    clear hn
    go_quiet (fail)
    go_wp2_with fail
    exact HNO.out _ HN.out (below_then HXB.out (below_drewN (Below.refl _ _) _))
  by_cases t5 : 7 < tt
  · have hn : ¬ DocR ⟨kind, fr, tt, term, index, logTerm, commit, ok, ea, en, ecap, es, off, d, last, c⟩ := fun h => by have h1 : 1 ≤ tt ∧ tt ≤ 7 := h.t; omega
    have HN := Lib.hid hn
    clear hn
    go_quiet (fail)
    go_wp2_with fail
    exact HNO.out _ HN.out (below_then HXB.out (below_drewN (Below.refl _ _) _))
  by_cases t6 : fr = tt
  · have hn : ¬ DocR ⟨kind, fr, tt, term, index, logTerm, commit, ok, ea, en, ecap, es, off, d, last, c⟩ := fun h => h.ne t6
    have HN := Lib.hid hn
    have t6' : (fr == tt) = true := by simp [t6]
    clear hn t6
    go_quiet (fail)
    go_wp2_with fail
    exact HNO.out _ HN.out (below_then HXB.out (below_drewN (Below.refl _ _) _))
  have t6' : (fr == tt) = false := by simp [t6]
  have T6 := Lib.hid t6
  clear t6
  by_cases t7 : numberOf term 1 = true
  case neg =>
    have hn : ¬ DocR ⟨kind, fr, tt, term, index, logTerm, commit, ok, ea, en, ecap, es, off, d, last, c⟩ := fun h => t7 (by have h1 : 1 ≤ term ∧ term ≤ 1099511627776 := h.term; simp [numberOf]; omega)
    have HN := Lib.hid hn
    have hnum := fun Z => number17_any term 1 Z
    rw [show numberOf term 1 = false by simpa using t7] at hnum
    have HNUM := Lib.hid hnum
    clear hn t7 hnum
    go_quiet ((go_at_call 39; first | exact quiet_b (HNUM.out _) | exact quiet_of (HNUM.out _)))
    go_wp2_with fail
    exact HNO.out _ HN.out (below_then HXB.out (below_drewN (Below.refl _ _) _))
  have hnum := fun Z => number17_any term 1 Z
  rw [t7] at hnum
  have HNUM := Lib.hid hnum
  have T7 := Lib.hid t7
  clear hnum t7 b0 b1 b2 b3 b4 b5 b6 b7 b8 b9 b10 b11 b12 b13
  have hS : ∀ Z, Below X.heap.size X Z → (Z.cell? ⟨w.heap.size, 0, none⟩ = some (.int .i64 kind) ∧ Z.cell? ⟨w.heap.size, 1, none⟩ = some (.int .i64 fr) ∧ Z.cell? ⟨w.heap.size, 2, none⟩ = some (.int .i64 tt) ∧ Z.cell? ⟨w.heap.size, 3, none⟩ = some (.int .i64 term) ∧ Z.cell? ⟨w.heap.size, 4, none⟩ = some (.int .i64 index) ∧ Z.cell? ⟨w.heap.size, 5, none⟩ = some (.int .i64 logTerm) ∧ Z.cell? ⟨w.heap.size, 6, none⟩ = some (.int .i64 commit) ∧ Z.cell? ⟨w.heap.size, 7, none⟩ = some (.bool ok) ∧ Z.cell? ⟨w.heap.size, 8, none⟩ = some (.slice ea en ecap) ∧ Z.cell? ⟨w.heap.size, 9, none⟩ = some (.int .i64 off) ∧ Z.cell? ⟨w.heap.size, 10, none⟩ = some (.slice d.a d.len d.cap) ∧ Z.cell? ⟨w.heap.size, 11, none⟩ = some (.bool last) ∧ Z.cell? ⟨w.heap.size, 12, none⟩ = some (.slice c.v.a c.v.len c.v.cap) ∧ Z.cell? ⟨w.heap.size, 13, none⟩ = some (.slice c.l.a c.l.len c.l.cap)) := fun Z hZ => ms_cells (m := ⟨kind, fr, tt, term, index, logTerm, commit, ok, ea, en, ecap, es, off, d, last, c⟩) (HCE.out Z hZ)
  have HSS := Lib.hid hS
  have HY0 := Lib.hid (Below.refl X.heap.size X).drew
  obtain ⟨same, hsame⟩ : ∃ same, same = sameM ⟨kind, fr, tt, term, index, logTerm, commit, ok, ea, en, ecap, es, off, d, last, c⟩ (onlyOf ⟨kind, fr, tt, term, index, logTerm, commit, ok, ea, en, ecap, es, off, d, last, c⟩) := ⟨_, rfl⟩
  have heq := HEQ.out
  rw [← hsame] at heq
  have HEQ2 := Lib.hid heq
  have HSAME := Lib.hid hsame
  clear hS heq hsame HEQ
  cases same
  case false =>
    have hn : ¬ DocR ⟨kind, fr, tt, term, index, logTerm, commit, ok, ea, en, ecap, es, off, d, last, c⟩ := fun h => by have h1 := h.same; rw [← HSAME.out] at h1; cases h1
    have HN := Lib.hid hn
    clear hn
    go_region_held3 (fun Z => Z.cell? ⟨w.heap.size, 0, none⟩ = some (.int .i64 kind) ∧ Z.cell? ⟨w.heap.size, 1, none⟩ = some (.int .i64 fr) ∧ Z.cell? ⟨w.heap.size, 2, none⟩ = some (.int .i64 tt) ∧ Z.cell? ⟨w.heap.size, 3, none⟩ = some (.int .i64 term) ∧ Z.cell? ⟨w.heap.size, 4, none⟩ = some (.int .i64 index) ∧ Z.cell? ⟨w.heap.size, 5, none⟩ = some (.int .i64 logTerm) ∧ Z.cell? ⟨w.heap.size, 6, none⟩ = some (.int .i64 commit) ∧ Z.cell? ⟨w.heap.size, 7, none⟩ = some (.bool ok) ∧ Z.cell? ⟨w.heap.size, 8, none⟩ = some (.slice ea en ecap) ∧ Z.cell? ⟨w.heap.size, 9, none⟩ = some (.int .i64 off) ∧ Z.cell? ⟨w.heap.size, 10, none⟩ = some (.slice d.a d.len d.cap) ∧ Z.cell? ⟨w.heap.size, 11, none⟩ = some (.bool last) ∧ Z.cell? ⟨w.heap.size, 12, none⟩ = some (.slice c.v.a c.v.len c.v.cap) ∧ Z.cell? ⟨w.heap.size, 13, none⟩ = some (.slice c.l.a c.l.len c.l.cap))
      (first | exact HSS.out _ HY3.out | exact HSS.out _ HY2.out | exact HSS.out _ HY1.out | exact HSS.out _ HY0.out | go_keep)
      (first
        | (go_at_call 16; refine (HEQ2.out _ HY2.out).mono ?_; rintro e y3 ⟨rfl, hb3⟩; have HY3 := Lib.hid (below_then HY2.out hb3); clear hb3)
        | (go_at_call 40; refine (HONLY.out _).mono ?_; rintro e y2 ⟨rfl, hb2⟩; have HY2 := Lib.hid (below_then HY1.out hb2); clear hb2)
        | (go_at_call 39; refine (HNUM.out _).mono ?_; rintro e y1 ⟨rfl, q1, hq1⟩; have HY1 := Lib.hid (show Below X.heap.size X y1 by rw [hq1]; exact below_drewN HY0.out q1); clear hq1))
    go_wp2_with fail
    exact HNO.out _ HN.out (below_then HXB.out HY3.out)
  go_region_held3 (fun Z => Z.cell? ⟨w.heap.size, 0, none⟩ = some (.int .i64 kind) ∧ Z.cell? ⟨w.heap.size, 1, none⟩ = some (.int .i64 fr) ∧ Z.cell? ⟨w.heap.size, 2, none⟩ = some (.int .i64 tt) ∧ Z.cell? ⟨w.heap.size, 3, none⟩ = some (.int .i64 term) ∧ Z.cell? ⟨w.heap.size, 4, none⟩ = some (.int .i64 index) ∧ Z.cell? ⟨w.heap.size, 5, none⟩ = some (.int .i64 logTerm) ∧ Z.cell? ⟨w.heap.size, 6, none⟩ = some (.int .i64 commit) ∧ Z.cell? ⟨w.heap.size, 7, none⟩ = some (.bool ok) ∧ Z.cell? ⟨w.heap.size, 8, none⟩ = some (.slice ea en ecap) ∧ Z.cell? ⟨w.heap.size, 9, none⟩ = some (.int .i64 off) ∧ Z.cell? ⟨w.heap.size, 10, none⟩ = some (.slice d.a d.len d.cap) ∧ Z.cell? ⟨w.heap.size, 11, none⟩ = some (.bool last) ∧ Z.cell? ⟨w.heap.size, 12, none⟩ = some (.slice c.v.a c.v.len c.v.cap) ∧ Z.cell? ⟨w.heap.size, 13, none⟩ = some (.slice c.l.a c.l.len c.l.cap))
    (first | exact HSS.out _ HY3.out | exact HSS.out _ HY2.out | exact HSS.out _ HY1.out | exact HSS.out _ HY0.out | go_keep)
    (first
      | (go_at_call 16; refine (HEQ2.out _ HY2.out).mono ?_; rintro e y3 ⟨rfl, hb3⟩; have HY3 := Lib.hid (below_then HY2.out hb3); clear hb3)
      | (go_at_call 40; refine (HONLY.out _).mono ?_; rintro e y2 ⟨rfl, hb2⟩; have HY2 := Lib.hid (below_then HY1.out hb2); clear hb2)
      | (go_at_call 39; refine (HNUM.out _).mono ?_; rintro e y1 ⟨rfl, q1, hq1⟩; have HY1 := Lib.hid (show Below X.heap.size X y1 by rw [hq1]; exact below_drewN HY0.out q1); clear hq1))
  clear HY0 HY1 HY2 HEQ2 HONLY HNUM
  obtain ⟨b0, b1, b2, b3, b4, b5, b6, b7, b8, b9, b10, b11, b12, b13⟩ := HSS.out _ HY3.out
  go_wp2_with fail
  refine (number17_any index 0 _).mono ?_
  rintro e y4 ⟨rfl, q4, hq⟩
  have HY4 := Lib.hid (show Below X.heap.size X y4 by rw [hq]; exact below_drewN HY3.out q4)
  clear hq b0 b1 b2 b3 b4 b5 b6 b7 b8 b9 b10 b11 b12 b13
  obtain ⟨b0, b1, b2, b3, b4, b5, b6, b7, b8, b9, b10, b11, b12, b13⟩ := HSS.out _ HY4.out
  by_cases n4 : numberOf index 0 = true
  case neg =>
    have hn : ¬ DocR ⟨kind, fr, tt, term, index, logTerm, commit, ok, ea, en, ecap, es, off, d, last, c⟩ := fun h => n4 (by have h1 : 0 ≤ index ∧ index ≤ 1099511627776 := h.ix; simp [numberOf]; omega)
    have HN := Lib.hid hn
    rw [show numberOf index 0 = false by simpa using n4]
    clear hn n4
    go_wp2_with fail
    exact HNO.out _ HN.out (below_then HXB.out HY4.out)
  rw [n4]
  have g4 : 0 ≤ index ∧ index ≤ 1099511627776 := by simpa [numberOf] using n4
  have G4 := Lib.hid g4
  clear n4 g4
  go_wp2_with fail
  refine (number17_any logTerm 0 _).mono ?_
  rintro e y5 ⟨rfl, q5, hq⟩
  have HY5 := Lib.hid (show Below X.heap.size X y5 by rw [hq]; exact below_drewN HY4.out q5)
  clear hq b0 b1 b2 b3 b4 b5 b6 b7 b8 b9 b10 b11 b12 b13
  obtain ⟨b0, b1, b2, b3, b4, b5, b6, b7, b8, b9, b10, b11, b12, b13⟩ := HSS.out _ HY5.out
  by_cases n5 : numberOf logTerm 0 = true
  case neg =>
    have hn : ¬ DocR ⟨kind, fr, tt, term, index, logTerm, commit, ok, ea, en, ecap, es, off, d, last, c⟩ := fun h => n5 (by have h1 : 0 ≤ logTerm ∧ logTerm ≤ 1099511627776 := h.lt; simp [numberOf]; omega)
    have HN := Lib.hid hn
    rw [show numberOf logTerm 0 = false by simpa using n5]
    clear hn n5
    go_wp2_with fail
    exact HNO.out _ HN.out (below_then HXB.out HY5.out)
  rw [n5]
  have g5 : 0 ≤ logTerm ∧ logTerm ≤ 1099511627776 := by simpa [numberOf] using n5
  have G5 := Lib.hid g5
  clear n5 g5
  go_wp2_with fail
  refine (number17_any commit 0 _).mono ?_
  rintro e y6 ⟨rfl, q6, hq⟩
  have HY6 := Lib.hid (show Below X.heap.size X y6 by rw [hq]; exact below_drewN HY5.out q6)
  clear hq b0 b1 b2 b3 b4 b5 b6 b7 b8 b9 b10 b11 b12 b13
  obtain ⟨b0, b1, b2, b3, b4, b5, b6, b7, b8, b9, b10, b11, b12, b13⟩ := HSS.out _ HY6.out
  by_cases n6 : numberOf commit 0 = true
  case neg =>
    have hn : ¬ DocR ⟨kind, fr, tt, term, index, logTerm, commit, ok, ea, en, ecap, es, off, d, last, c⟩ := fun h => n6 (by have h1 : 0 ≤ commit ∧ commit ≤ 1099511627776 := h.cm; simp [numberOf]; omega)
    have HN := Lib.hid hn
    rw [show numberOf commit 0 = false by simpa using n6]
    clear hn n6
    go_wp2_with fail
    exact HNO.out _ HN.out (below_then HXB.out HY6.out)
  rw [n6]
  have g6 : 0 ≤ commit ∧ commit ≤ 1099511627776 := by simpa [numberOf] using n6
  have G6 := Lib.hid g6
  clear n6 g6
  by_cases s0 : off < 0
  · have hn : ¬ DocR ⟨kind, fr, tt, term, index, logTerm, commit, ok, ea, en, ecap, es, off, d, last, c⟩ := fun h => by have h1 : 0 ≤ off ∧ off ≤ 32768 := h.off; omega
    have HN := Lib.hid hn
    clear hn
    go_wp2_with fail
    exact HNO.out _ HN.out (below_then HXB.out HY6.out)
  by_cases s1 : 32768 < off
  · have hn : ¬ DocR ⟨kind, fr, tt, term, index, logTerm, commit, ok, ea, en, ecap, es, off, d, last, c⟩ := fun h => by have h1 : 0 ≤ off ∧ off ≤ 32768 := h.off; omega
    have HN := Lib.hid hn
    clear hn
    go_wp2_with fail
    exact HNO.out _ HN.out (below_then HXB.out HY6.out)
  by_cases s2 : (64 : Int) < (d.len : Int)
  · have hn : ¬ DocR ⟨kind, fr, tt, term, index, logTerm, commit, ok, ea, en, ecap, es, off, d, last, c⟩ := fun h => by have h1 : d.len ≤ 64 := h.dl; omega
    have HN := Lib.hid hn
    clear hn
    go_wp2_with fail
    exact HNO.out _ HN.out (below_then HXB.out HY6.out)
  by_cases s3 : (8 : Int) < (en : Int)
  · have hn : ¬ DocR ⟨kind, fr, tt, term, index, logTerm, commit, ok, ea, en, ecap, es, off, d, last, c⟩ := fun h => by have h1 : en ≤ 8 := h.en; omega
    have HN := Lib.hid hn
    clear hn
    go_wp2_with fail
    exact HNO.out _ HN.out (below_then HXB.out HY6.out)
  by_cases u0 : 7 ≤ kind ∧ index < 1
  · obtain ⟨u1, u2⟩ := u0
    have hn : ¬ DocR ⟨kind, fr, tt, term, index, logTerm, commit, ok, ea, en, ecap, es, off, d, last, c⟩ := fun h => by have h1 : 1 ≤ index := h.i7 u1; omega
    have HN := Lib.hid hn
    clear hn
    go_wp2_with fail
    exact HNO.out _ HN.out (below_then HXB.out HY6.out)
  have hi7 : 7 ≤ kind → 1 ≤ index := fun h => by omega
  have HI7 := Lib.hid hi7
  clear hi7
  have key : ∀ Z, Below X.heap.size X Z → (kind = 7 → confRight c.v.zs c.l.zs = true ∧ logTerm ≤ term) → True := fun _ _ _ => trivial
  clear key
  by_cases k7 : kind = 7
  · have hcf := HCONF.out _ HY6.out
    have k7' : (kind == 7) = true := by simp [k7]
    by_cases cr : confRight c.v.zs c.l.zs = true
    case neg =>
      have hn : ¬ DocR ⟨kind, fr, tt, term, index, logTerm, commit, ok, ea, en, ecap, es, off, d, last, c⟩ := fun h => cr (h.c7 k7).1
      have HN := Lib.hid hn
      rw [show confRight c.v.zs c.l.zs = false by simpa using cr] at hcf
      have HCF := Lib.hid hcf
      have K7 := Lib.hid k7
      have hk7 : 7 ≤ kind := by omega
      have hix : ¬ index < 1 := by omega
      clear hn cr hcf k7 u0
      go_wp2_with fail
      refine HCF.out.mono ?_
      rintro e y7 ⟨rfl, hb7⟩
      have HY7 := Lib.hid (below_then HY6.out hb7)
      clear hb7
      go_wp2_with fail
      exact HNO.out _ HN.out (below_then HXB.out HY7.out)
    rw [cr] at hcf
    have HCF := Lib.hid hcf
    have CR := Lib.hid cr
    have K7 := Lib.hid k7
    have hk7 : 7 ≤ kind := by omega
    have hix : ¬ index < 1 := by omega
    have hk8 : kind ≤ 8 := by omega
    clear cr hcf k7 u0
    go_wp2_with fail
    refine HCF.out.mono ?_
    rintro e y7 ⟨rfl, hb7⟩
    have HYC := Lib.hid (below_then HY6.out hb7)
    clear hb7 b0 b1 b2 b3 b4 b5 b6 b7 b8 b9 b10 b11 b12 b13
    obtain ⟨b0, b1, b2, b3, b4, b5, b6, b7, b8, b9, b10, b11, b12, b13⟩ := HSS.out _ HYC.out
    by_cases lt : term < logTerm
    · have hn : ¬ DocR ⟨kind, fr, tt, term, index, logTerm, commit, ok, ea, en, ecap, es, off, d, last, c⟩ := fun h => by have h1 : logTerm ≤ term := (h.c7 K7.out).2; omega
      have HN := Lib.hid hn
      clear hn
      go_wp2_with fail
      exact HNO.out _ HN.out (below_then HXB.out HYC.out)
    have hc7 : kind = 7 → confRight c.v.zs c.l.zs = true ∧ logTerm ≤ term := fun _ => ⟨CR.out, by omega⟩
    have HC7 := Lib.hid hc7
    clear hc7
    go_upto_region 7 with fail
    obtain ⟨P, hP⟩ : ∃ P, P = DocR ⟨kind, fr, tt, term, index, logTerm, commit, ok, ea, en, ecap, es, off, d, last, c⟩ := ⟨_, rfl⟩
    have hdoc : P ↔ dEnts term index 0 logTerm es := by
      rw [hP]
      refine ⟨fun h => h.ents, fun h => ⟨by show 1 ≤ kind ∧ kind ≤ 8; omega, by show 1 ≤ fr ∧ fr ≤ 7; omega, by show 1 ≤ tt ∧ tt ≤ 7; omega, T6.out, by have := T7.out; simpa [numberOf] using this, HSAME.out.symm, G4.out, G5.out, G6.out, by show 0 ≤ off ∧ off ≤ 32768; omega, by show d.len ≤ 64; omega, by show en ≤ 8; omega, HI7.out, HC7.out, h⟩⟩
    have HDOC := Lib.hid hdoc
    have hno2 : ∀ w', ¬ P → Below w.heap.size w w' → post (.returned (.bool false)) w' := by rw [hP]; exact HNO.out
    have hyes2 : ∀ w', P → Below w.heap.size w w' → post (.returned (.bool true)) w' := by rw [hP]; exact HYES.out
    have HNO2 := Lib.hid hno2
    have HYES2 := Lib.hid hyes2
    have hel : es.length = en := HM.out.len
    have HEL := Lib.hid hel
    have g4 := G4.out
    obtain ⟨gi1, gi2⟩ := g4
    clear hdoc hno2 hyes2 hP hel HNO HYES
    go_wp2_with fail
    go_loopw [3, 4] (fun s i wr => ∃ (k : Nat) (tk : Int), k ≤ en ∧ i = .int .i64 k ∧ s = .int .i64 tk ∧ Hid (P ↔ dEnts term index k tk (es.drop k)) ∧ Hid (Below X.heap.size X wr)) (fun _ i _ => en - (intOf i).toNat)
    case atStart => exact ⟨0, logTerm, Nat.zero_le _, rfl, rfl, Lib.hid (by rw [List.drop_zero]; exact HDOC.out), HYC⟩
    case round =>
      obtain ⟨k, tk, hk, rfl, rfl, HD, HB⟩ := hrel
      clear b0 b1 b2 b3 b4 b5 b6 b7 b8 b9 b10 b11 b12 b13
      obtain ⟨b0, b1, b2, b3, b4, b5, b6, b7, b8, b9, b10, b11, b12, b13⟩ := HSS.out _ HB.out
      by_cases hlt : k < en
      · obtain ⟨e, hek⟩ : ∃ e, es[k]? = some e := ⟨_, List.getElem?_eq_getElem (by rw [HEL.out]; exact hlt)⟩
        obtain ⟨be, oe, rfl, e0, e1, e2, e3⟩ := en_at (HM.out.below HB.out).row HEL.out k hlt e hek
        have hkn : (k : Int) < (en : Int) := by omega
        have hk0 : (0 : Int) ≤ (k : Int) := by omega
        have hnat : ((k : Int)).toNat = k := by omega
        have hd := HD.out
        rw [drop_en hek, dEnts] at hd
        have HD2 := Lib.hid hd
        obtain ⟨Y, hY⟩ : ∃ Y, Y = wr.alloc (.cells #[.int .i64 e.ix, .int .i64 e.tm, .int .i64 e.kd, .slice e.s.a e.s.len e.s.cap] 41) := ⟨_, rfl⟩
        have hbY : Below X.heap.size X Y := below_then HB.out (hY ▸ below_alloc (Below.refl _ _) _)
        have hYc : Y.heap[wr.heap.size]? = some (.cells #[.int .i64 e.ix, .int .i64 e.tm, .int .i64 e.kd, .slice e.s.a e.s.len e.s.cap] 41 (0, 0)) := hY ▸ heap_alloc_new wr _
        have hr06 := r06_any e.ix e.tm e.kd e.s Y
        have HY := Lib.hid hY
        have HBY := Lib.hid hbY
        have HYC2 := Lib.hid hYc
        have HR06 := Lib.hid hr06
        clear hd hek hY hbY hYc hr06
        go_upto_region 12 with fail
        rw [← HY.out]
        obtain ⟨⟨f0, f1, f2, f3⟩, _⟩ := four_cells HYC2.out
        clear b0 b1 b2 b3 b4 b5 b6 b7 b8 b9 b10 b11 b12 b13
        go_wp2_with fail
        refine HR06.out.mono ?_
        rintro e' y9 ⟨rfl, hb9⟩
        have HB9 := Lib.hid (below_then HBY.out hb9)
        obtain ⟨b0, b1, b2, b3, b4, b5, b6, b7, b8, b9, b10, b11, b12, b13⟩ := HSS.out _ HB9.out
        clear f0 f1 f2 f3
        obtain ⟨⟨f0, f1, f2, f3⟩, _⟩ := four_cells ((hb9.block _ (Array.getElem?_eq_some_iff.1 HYC2.out).1).trans HYC2.out)
        clear hb9
        by_cases v0 : r06 e.ix e.tm e.kd e.s.len = true
        case neg =>
          have hn : ¬ P := fun h => v0 (HD2.out.1 h).1
          have HN := Lib.hid hn
          rw [show r06 e.ix e.tm e.kd e.s.len = false by simpa using v0]
          clear hn v0
          go_wp2_with fail
          exact HNO2.out _ HN.out (below_then HXB.out HB9.out)
        rw [v0]
        have V0 := Lib.hid v0
        clear v0
        by_cases v1 : e.ix = index + (k : Nat) + 1
        case neg =>
          have hn : ¬ P := fun h => v1 (HD2.out.1 h).2.1
          have HN := Lib.hid hn
          have vb : (e.ix != index + (k : Nat) + 1) = true := by simp [v1]
          clear hn v1
          go_wp2_with fail
          exact HNO2.out _ HN.out (below_then HXB.out HB9.out)
        have vb : (e.ix != index + (k : Nat) + 1) = false := by simp [v1]
        have V1 := Lib.hid v1
        clear v1
        by_cases v2 : e.tm < tk
        · have hn : ¬ P := fun h => by have h1 := (HD2.out.1 h).2.2.1; omega
          have HN := Lib.hid hn
          clear hn
          go_wp2_with fail
          exact HNO2.out _ HN.out (below_then HXB.out HB9.out)
        by_cases v3 : term < e.tm
        · have hn : ¬ P := fun h => by have h1 := (HD2.out.1 h).2.2.2.1; omega
          have HN := Lib.hid hn
          clear hn
          go_wp2_with fail
          exact HNO2.out _ HN.out (below_then HXB.out HB9.out)
        have hnx : P ↔ dEnts term index (k + 1) e.tm (es.drop (k + 1)) := HD2.out.trans ⟨fun h => h.2.2.2.2, fun h => ⟨V0.out, V1.out, by omega, by omega, h⟩⟩
        have HNX := Lib.hid hnx
        clear hnx
        go_wp2_with fail
        go_roundw
        case rel => exact ⟨k + 1, e.tm, by omega, by go_num, rfl, HNX, HB9⟩
        case measure => simp [intOf]; omega
      · have hke : k = en := by omega
        subst hke
        have hp : P := HD.out.2 (by rw [List.drop_of_length_le (by rw [HEL.out]; omega)]; trivial)
        have HP := Lib.hid hp
        clear hp
        go_wp2_with fail
        exact HYES2.out _ HP.out (below_then HXB.out HB.out)
  · have hc7 : kind = 7 → confRight c.v.zs c.l.zs = true ∧ logTerm ≤ term := fun h => absurd h k7
    have HC7 := Lib.hid hc7
    have k7' : (kind == 7) = false := by simp [k7]
    have HYC := HY6
    have K7 := Lib.hid k7
    clear hc7 k7
    by_cases u1 : 7 ≤ kind
    · have hix : ¬ index < 1 := by omega
      clear u0
      go_upto_region 7 with fail
      obtain ⟨P, hP⟩ : ∃ P, P = DocR ⟨kind, fr, tt, term, index, logTerm, commit, ok, ea, en, ecap, es, off, d, last, c⟩ := ⟨_, rfl⟩
      have hdoc : P ↔ dEnts term index 0 logTerm es := by
        rw [hP]
        refine ⟨fun h => h.ents, fun h => ⟨by show 1 ≤ kind ∧ kind ≤ 8; omega, by show 1 ≤ fr ∧ fr ≤ 7; omega, by show 1 ≤ tt ∧ tt ≤ 7; omega, T6.out, by have := T7.out; simpa [numberOf] using this, HSAME.out.symm, G4.out, G5.out, G6.out, by show 0 ≤ off ∧ off ≤ 32768; omega, by show d.len ≤ 64; omega, by show en ≤ 8; omega, HI7.out, HC7.out, h⟩⟩
      have HDOC := Lib.hid hdoc
      have hno2 : ∀ w', ¬ P → Below w.heap.size w w' → post (.returned (.bool false)) w' := by rw [hP]; exact HNO.out
      have hyes2 : ∀ w', P → Below w.heap.size w w' → post (.returned (.bool true)) w' := by rw [hP]; exact HYES.out
      have HNO2 := Lib.hid hno2
      have HYES2 := Lib.hid hyes2
      have hel : es.length = en := HM.out.len
      have HEL := Lib.hid hel
      have g4 := G4.out
      obtain ⟨gi1, gi2⟩ := g4
      clear hdoc hno2 hyes2 hP hel HNO HYES
      go_wp2_with fail
      go_loopw [3, 4] (fun s i wr => ∃ (k : Nat) (tk : Int), k ≤ en ∧ i = .int .i64 k ∧ s = .int .i64 tk ∧ Hid (P ↔ dEnts term index k tk (es.drop k)) ∧ Hid (Below X.heap.size X wr)) (fun _ i _ => en - (intOf i).toNat)
      case atStart => exact ⟨0, logTerm, Nat.zero_le _, rfl, rfl, Lib.hid (by rw [List.drop_zero]; exact HDOC.out), HYC⟩
      case round =>
        obtain ⟨k, tk, hk, rfl, rfl, HD, HB⟩ := hrel
        clear b0 b1 b2 b3 b4 b5 b6 b7 b8 b9 b10 b11 b12 b13
        obtain ⟨b0, b1, b2, b3, b4, b5, b6, b7, b8, b9, b10, b11, b12, b13⟩ := HSS.out _ HB.out
        by_cases hlt : k < en
        · obtain ⟨e, hek⟩ : ∃ e, es[k]? = some e := ⟨_, List.getElem?_eq_getElem (by rw [HEL.out]; exact hlt)⟩
          obtain ⟨be, oe, rfl, e0, e1, e2, e3⟩ := en_at (HM.out.below HB.out).row HEL.out k hlt e hek
          have hkn : (k : Int) < (en : Int) := by omega
          have hk0 : (0 : Int) ≤ (k : Int) := by omega
          have hnat : ((k : Int)).toNat = k := by omega
          have hd := HD.out
          rw [drop_en hek, dEnts] at hd
          have HD2 := Lib.hid hd
          obtain ⟨Y, hY⟩ : ∃ Y, Y = wr.alloc (.cells #[.int .i64 e.ix, .int .i64 e.tm, .int .i64 e.kd, .slice e.s.a e.s.len e.s.cap] 41) := ⟨_, rfl⟩
          have hbY : Below X.heap.size X Y := below_then HB.out (hY ▸ below_alloc (Below.refl _ _) _)
          have hYc : Y.heap[wr.heap.size]? = some (.cells #[.int .i64 e.ix, .int .i64 e.tm, .int .i64 e.kd, .slice e.s.a e.s.len e.s.cap] 41 (0, 0)) := hY ▸ heap_alloc_new wr _
          have hr06 := r06_any e.ix e.tm e.kd e.s Y
          have HY := Lib.hid hY
          have HBY := Lib.hid hbY
          have HYC2 := Lib.hid hYc
          have HR06 := Lib.hid hr06
          clear hd hek hY hbY hYc hr06
          go_upto_region 12 with fail
          rw [← HY.out]
          obtain ⟨⟨f0, f1, f2, f3⟩, _⟩ := four_cells HYC2.out
          clear b0 b1 b2 b3 b4 b5 b6 b7 b8 b9 b10 b11 b12 b13
          go_wp2_with fail
          refine HR06.out.mono ?_
          rintro e' y9 ⟨rfl, hb9⟩
          have HB9 := Lib.hid (below_then HBY.out hb9)
          obtain ⟨b0, b1, b2, b3, b4, b5, b6, b7, b8, b9, b10, b11, b12, b13⟩ := HSS.out _ HB9.out
          clear f0 f1 f2 f3
          obtain ⟨⟨f0, f1, f2, f3⟩, _⟩ := four_cells ((hb9.block _ (Array.getElem?_eq_some_iff.1 HYC2.out).1).trans HYC2.out)
          clear hb9
          by_cases v0 : r06 e.ix e.tm e.kd e.s.len = true
          case neg =>
            have hn : ¬ P := fun h => v0 (HD2.out.1 h).1
            have HN := Lib.hid hn
            rw [show r06 e.ix e.tm e.kd e.s.len = false by simpa using v0]
            clear hn v0
            go_wp2_with fail
            exact HNO2.out _ HN.out (below_then HXB.out HB9.out)
          rw [v0]
          have V0 := Lib.hid v0
          clear v0
          by_cases v1 : e.ix = index + (k : Nat) + 1
          case neg =>
            have hn : ¬ P := fun h => v1 (HD2.out.1 h).2.1
            have HN := Lib.hid hn
            have vb : (e.ix != index + (k : Nat) + 1) = true := by simp [v1]
            clear hn v1
            go_wp2_with fail
            exact HNO2.out _ HN.out (below_then HXB.out HB9.out)
          have vb : (e.ix != index + (k : Nat) + 1) = false := by simp [v1]
          have V1 := Lib.hid v1
          clear v1
          by_cases v2 : e.tm < tk
          · have hn : ¬ P := fun h => by have h1 := (HD2.out.1 h).2.2.1; omega
            have HN := Lib.hid hn
            clear hn
            go_wp2_with fail
            exact HNO2.out _ HN.out (below_then HXB.out HB9.out)
          by_cases v3 : term < e.tm
          · have hn : ¬ P := fun h => by have h1 := (HD2.out.1 h).2.2.2.1; omega
            have HN := Lib.hid hn
            clear hn
            go_wp2_with fail
            exact HNO2.out _ HN.out (below_then HXB.out HB9.out)
          have hnx : P ↔ dEnts term index (k + 1) e.tm (es.drop (k + 1)) := HD2.out.trans ⟨fun h => h.2.2.2.2, fun h => ⟨V0.out, V1.out, by omega, by omega, h⟩⟩
          have HNX := Lib.hid hnx
          clear hnx
          go_wp2_with fail
          go_roundw
          case rel => exact ⟨k + 1, e.tm, by omega, by go_num, rfl, HNX, HB9⟩
          case measure => simp [intOf]; omega
        · have hke : k = en := by omega
          subst hke
          have hp : P := HD.out.2 (by rw [List.drop_of_length_le (by rw [HEL.out]; omega)]; trivial)
          have HP := Lib.hid hp
          clear hp
          go_wp2_with fail
          exact HYES2.out _ HP.out (below_then HXB.out HB.out)
    · clear u0
      go_upto_region 7 with fail
      obtain ⟨P, hP⟩ : ∃ P, P = DocR ⟨kind, fr, tt, term, index, logTerm, commit, ok, ea, en, ecap, es, off, d, last, c⟩ := ⟨_, rfl⟩
      have hdoc : P ↔ dEnts term index 0 logTerm es := by
        rw [hP]
        refine ⟨fun h => h.ents, fun h => ⟨by show 1 ≤ kind ∧ kind ≤ 8; omega, by show 1 ≤ fr ∧ fr ≤ 7; omega, by show 1 ≤ tt ∧ tt ≤ 7; omega, T6.out, by have := T7.out; simpa [numberOf] using this, HSAME.out.symm, G4.out, G5.out, G6.out, by show 0 ≤ off ∧ off ≤ 32768; omega, by show d.len ≤ 64; omega, by show en ≤ 8; omega, HI7.out, HC7.out, h⟩⟩
      have HDOC := Lib.hid hdoc
      have hno2 : ∀ w', ¬ P → Below w.heap.size w w' → post (.returned (.bool false)) w' := by rw [hP]; exact HNO.out
      have hyes2 : ∀ w', P → Below w.heap.size w w' → post (.returned (.bool true)) w' := by rw [hP]; exact HYES.out
      have HNO2 := Lib.hid hno2
      have HYES2 := Lib.hid hyes2
      have hel : es.length = en := HM.out.len
      have HEL := Lib.hid hel
      have g4 := G4.out
      obtain ⟨gi1, gi2⟩ := g4
      clear hdoc hno2 hyes2 hP hel HNO HYES
      go_wp2_with fail
      go_loopw [3, 4] (fun s i wr => ∃ (k : Nat) (tk : Int), k ≤ en ∧ i = .int .i64 k ∧ s = .int .i64 tk ∧ Hid (P ↔ dEnts term index k tk (es.drop k)) ∧ Hid (Below X.heap.size X wr)) (fun _ i _ => en - (intOf i).toNat)
      case atStart => exact ⟨0, logTerm, Nat.zero_le _, rfl, rfl, Lib.hid (by rw [List.drop_zero]; exact HDOC.out), HYC⟩
      case round =>
        obtain ⟨k, tk, hk, rfl, rfl, HD, HB⟩ := hrel
        clear b0 b1 b2 b3 b4 b5 b6 b7 b8 b9 b10 b11 b12 b13
        obtain ⟨b0, b1, b2, b3, b4, b5, b6, b7, b8, b9, b10, b11, b12, b13⟩ := HSS.out _ HB.out
        by_cases hlt : k < en
        · obtain ⟨e, hek⟩ : ∃ e, es[k]? = some e := ⟨_, List.getElem?_eq_getElem (by rw [HEL.out]; exact hlt)⟩
          obtain ⟨be, oe, rfl, e0, e1, e2, e3⟩ := en_at (HM.out.below HB.out).row HEL.out k hlt e hek
          have hkn : (k : Int) < (en : Int) := by omega
          have hk0 : (0 : Int) ≤ (k : Int) := by omega
          have hnat : ((k : Int)).toNat = k := by omega
          have hd := HD.out
          rw [drop_en hek, dEnts] at hd
          have HD2 := Lib.hid hd
          obtain ⟨Y, hY⟩ : ∃ Y, Y = wr.alloc (.cells #[.int .i64 e.ix, .int .i64 e.tm, .int .i64 e.kd, .slice e.s.a e.s.len e.s.cap] 41) := ⟨_, rfl⟩
          have hbY : Below X.heap.size X Y := below_then HB.out (hY ▸ below_alloc (Below.refl _ _) _)
          have hYc : Y.heap[wr.heap.size]? = some (.cells #[.int .i64 e.ix, .int .i64 e.tm, .int .i64 e.kd, .slice e.s.a e.s.len e.s.cap] 41 (0, 0)) := hY ▸ heap_alloc_new wr _
          have hr06 := r06_any e.ix e.tm e.kd e.s Y
          have HY := Lib.hid hY
          have HBY := Lib.hid hbY
          have HYC2 := Lib.hid hYc
          have HR06 := Lib.hid hr06
          clear hd hek hY hbY hYc hr06
          go_upto_region 12 with fail
          rw [← HY.out]
          obtain ⟨⟨f0, f1, f2, f3⟩, _⟩ := four_cells HYC2.out
          clear b0 b1 b2 b3 b4 b5 b6 b7 b8 b9 b10 b11 b12 b13
          go_wp2_with fail
          refine HR06.out.mono ?_
          rintro e' y9 ⟨rfl, hb9⟩
          have HB9 := Lib.hid (below_then HBY.out hb9)
          obtain ⟨b0, b1, b2, b3, b4, b5, b6, b7, b8, b9, b10, b11, b12, b13⟩ := HSS.out _ HB9.out
          clear f0 f1 f2 f3
          obtain ⟨⟨f0, f1, f2, f3⟩, _⟩ := four_cells ((hb9.block _ (Array.getElem?_eq_some_iff.1 HYC2.out).1).trans HYC2.out)
          clear hb9
          by_cases v0 : r06 e.ix e.tm e.kd e.s.len = true
          case neg =>
            have hn : ¬ P := fun h => v0 (HD2.out.1 h).1
            have HN := Lib.hid hn
            rw [show r06 e.ix e.tm e.kd e.s.len = false by simpa using v0]
            clear hn v0
            go_wp2_with fail
            exact HNO2.out _ HN.out (below_then HXB.out HB9.out)
          rw [v0]
          have V0 := Lib.hid v0
          clear v0
          by_cases v1 : e.ix = index + (k : Nat) + 1
          case neg =>
            have hn : ¬ P := fun h => v1 (HD2.out.1 h).2.1
            have HN := Lib.hid hn
            have vb : (e.ix != index + (k : Nat) + 1) = true := by simp [v1]
            clear hn v1
            go_wp2_with fail
            exact HNO2.out _ HN.out (below_then HXB.out HB9.out)
          have vb : (e.ix != index + (k : Nat) + 1) = false := by simp [v1]
          have V1 := Lib.hid v1
          clear v1
          by_cases v2 : e.tm < tk
          · have hn : ¬ P := fun h => by have h1 := (HD2.out.1 h).2.2.1; omega
            have HN := Lib.hid hn
            clear hn
            go_wp2_with fail
            exact HNO2.out _ HN.out (below_then HXB.out HB9.out)
          by_cases v3 : term < e.tm
          · have hn : ¬ P := fun h => by have h1 := (HD2.out.1 h).2.2.2.1; omega
            have HN := Lib.hid hn
            clear hn
            go_wp2_with fail
            exact HNO2.out _ HN.out (below_then HXB.out HB9.out)
          have hnx : P ↔ dEnts term index (k + 1) e.tm (es.drop (k + 1)) := HD2.out.trans ⟨fun h => h.2.2.2.2, fun h => ⟨V0.out, V1.out, by omega, by omega, h⟩⟩
          have HNX := Lib.hid hnx
          clear hnx
          go_wp2_with fail
          go_roundw
          case rel => exact ⟨k + 1, e.tm, by omega, by go_num, rfl, HNX, HB9⟩
          case measure => simp [intOf]; omega
        · have hke : k = en := by omega
          subst hke
          have hp : P := HD.out.2 (by rw [List.drop_of_length_le (by rw [HEL.out]; omega)]; trivial)
          have HP := Lib.hid hp
          clear hp
          go_wp2_with fail
          exact HYES2.out _ HP.out (below_then HXB.out HB.out)
end Go.Proofs.Ytcejamblndilbaa
