/- A table of spans: Put of a new span. -/
import Derived.Test.YtpknmfmpiachkaaGreatPreds2
namespace Go.Proofs.YtpknmfmpiachkaaGreat
open Go.RowKit
theorem takeP (vs : List PI) : ∀ i, (vs.flatMap PI.cells).take (i * 5) = (vs.take i).flatMap PI.cells := by
 induction vs with
 | nil => intro i; simp
 | cons x r ih =>
   intro i
   cases i with
   | zero => simp
   | succ i =>
     rw [List.take_succ_cons, List.flatMap_cons, List.flatMap_cons, ← ih i, show (i + 1) * 5 = i * 5 + 1 + 1 + 1 + 1 + 1 by omega]
     rfl
theorem cells_oneP (L : List PI) : ∀ u ∈ L.flatMap PI.cells, u.oneCell' = true := fun u hu => by
 obtain ⟨v, _, hu⟩ := List.mem_flatMap.1 hu
 simp only [PI.cells, List.mem_cons, List.not_mem_nil, or_false] at hu
 rcases hu with rfl | rfl | rfl | rfl | rfl <;> rfl
def pIns (L : List PI) (p : Nat) (s : Spn) (num : Int) : List PI := L.take p ++ [⟨s, num⟩] ++ L.drop p
theorem PT.apart {w base N most ae n cap L} (h : PT w base N most ae n cap L) : Value.ownBlock (.slice ae n cap) ≠ some N := fun he => by
 obtain ⟨h1, h2, h3, h4, _⟩ := h
 rcases h3.2 with ⟨h5, _⟩ | ⟨g, cp, cur, h5, h6, _⟩
 · rw [h5] at he; cases he
 · rw [h5] at he
   have : g = N := by simpa [Value.ownBlock] using he
   omega
theorem PT.put {w w1 Y w3 base N most ae n cap L} (hb : Below w.heap.size w w1) (hbY : Below w1.heap.size w1 Y) (hTY : PT Y base N most ae n cap L) (hroom : n < most) {s : Spn} (hok : s.ok) {num : Int} {p : Nat} {ao3 : Option Addr} {cp3 : Nat}
 (ho : w3.ownsRow base 184 5 (.slice ao3 (n + 1) cp3) (n + 1) ((L.flatMap PI.cells).take (p * 5) ++ PI.cells ⟨s, num⟩ ++ (L.flatMap PI.cells).drop (p * 5))) (hg : Y.grownBy w3 (Value.ownBlock (.slice ae n cap)))
 (ha : Value.ownBlock (.slice ao3 (n + 1) cp3) = Value.ownBlock (.slice ae n cap) ∨ ∃ g, Value.ownBlock (.slice ao3 (n + 1) cp3) = some g ∧ Y.heap.size ≤ g) (hN : w3.heap[N]? = some (.cells #[.int .i64 (most : Nat), .slice ae n cap] 113 (0, 0))) :
 PPut w base N most ae n cap (pIns L p s num) (.returned (.int .i64 0)) (w3.setCell ⟨N, 1, none⟩ (.slice ao3 (n + 1) cp3)) := by
 have hgs := grown_set w3 N 1 (.slice ao3 (n + 1) cp3)
 have hwY := Nat.le_trans hb.size hbY.size
 have hlen : (pIns L p s num).length = n + 1 := by
  have := hTY.2.1
  simp only [pIns, List.length_append, List.length_take, List.length_drop, List.length_singleton]
  omega
 refine ⟨rfl, ao3, n + 1, cp3, ⟨set_block (i := 1) hN _, hlen, ?_, hTY.2.2.2.1, Nat.le_trans hTY.2.2.2.2.1 (Nat.le_trans hg.size hgs.size), hroom, hTY.2.2.2.2.2.2.1, fun v hv => ?_⟩, ?_, ?_⟩
 · rw [takeP, dropP] at ho
   have := ownsRow_setCell_below ho (a := ⟨N, 1, none⟩) hTY.2.2.2.1 (.slice ao3 (n + 1) cp3)
   simpa [pIns] using this
 · simp only [pIns, List.mem_append, List.mem_singleton] at hv
   rcases hv with (hv | rfl) | hv
   · exact hTY.2.2.2.2.2.2.2 v (List.mem_of_mem_take hv)
   · exact hok
   · exact hTY.2.2.2.2.2.2.2 v (List.mem_of_mem_drop hv)
 · refine ((Only.of_below hb).trans (Only.of_below (S := VS N ae n cap) hbY) fun _ _ h => h).trans (((Only.of_grown hg fun g h _ => .inr h).trans (Only.of_grown hgs fun g h _ => .inl ?_) fun _ _ h => h)) fun _ _ h => h
   exact (Option.some.inj h).symm
 · rcases ha with ha | ⟨g, h1, h2⟩
   · exact .inl ha
   · exact .inr ⟨g, h1, Nat.le_trans hwY h2⟩
set_option maxRecDepth 100000 in
set_option maxHeartbeats 12800000 in
theorem pput_ins (base N most : Nat) (ae : Option Addr) (n cap : Nat) (L : List PI) (s : Spn) (hs : s.ok) (hne : emptyS (canonS s) = false) (num : Int) (hn1 : 1 ≤ num) (hn2 : num ≤ 1099511627776) (p : Nat) (hp : Turns (fun v : PI => cmpS v.s (canonS s)) L p) (hF : foundAt (fun v : PI => cmpS v.s (canonS s)) L p = false) (hroom : n < most) (w : World) (hT : PT w base N most ae n cap L) :
 Calls Tryz.prog 62 #[.pointer (some ⟨N, 0, none⟩), .agg #[.float .f64 s.lo, .float .f64 s.hi, .bool s.lop, .bool s.hop], .int .i64 num] w (PPut w base N most ae n cap (pIns L p (canonS s) num)) := by
 have hc := canonS_any s hs
 have hok := canonS_ok s hs
 generalize canonS s = C at hc hok hne hp hF ⊢
 have he := emptyS_any C hok
 rw [hne] at he
 have hpl := fun W hW hb => psearch_any C hok L hT.2.2.2.2.2.2.2 p hp ae n cap W hW hT.2.1 hb
 rw [hF] at hpl
 have hmn : ((n : Int) == (most : Int)) = false := by simp; omega
 have hmn' : ¬ n = most := by omega
 have hm64 := hT.2.2.2.2.2.2.1
 have HOK := Lib.hid hok
 clear hF
 have hb64 : n ≤ 64 := by have := hT.2.2.2.2.2.1; have := hT.2.2.2.2.2.2.1; omega
 have hpn : p ≤ n := by rw [← hT.2.1]; exact hp.1
 have hm1 : ¬ num < 1 := by omega
 have hm2 : ¬ 1099511627776 < num := by omega
 obtain ⟨lo, hi, lop, hop⟩ := s
 obtain ⟨clo, chi, clop, chop⟩ := C
 unfold Spn.agg at hc he
 simp only at hc he hpl ⊢
 have HC := Lib.hid hc
 have HE := Lib.hid he
 have HPL := Lib.hid hpl
 have HT := Lib.hid hT
 clear hc he hpl hp hs hne hok
 obtain ⟨Y, hY⟩ : ∃ Y, Y = w.alloc (.cells #[.float .f64 lo, .float .f64 hi, .bool lop, .bool hop] 101) := ⟨_, rfl⟩
 have hbY : Below w.heap.size w Y := hY ▸ below_alloc (Below.refl _ _) _
 have hYB : Y.heap[w.heap.size]? = some (.cells #[.float .f64 lo, .float .f64 hi, .bool lop, .bool hop] 101 (0, 0)) := hY ▸ heap_alloc_new w _
 have HBY := Lib.hid hbY
 have HYB := Lib.hid hYB
 obtain ⟨⟨a0, a1, a2, a3⟩, _⟩ := four_cells hYB
 clear hbY hYB hT
 go_enter Tryz.func62, Tryz.ntmps62
 go_upto_region 1 with fail
 rw [← hY]
 clear hY
 go_wp2_with fail
 refine (HC.out _).mono ?_
 rintro e w1 ⟨rfl, hb1⟩
 have h1B := (hb1.block w.heap.size (lt_of_block HYB.out)).trans HYB.out
 obtain ⟨⟨c0, c1, c2, c3⟩, i0, i1, i2, i3⟩ := four_cells h1B
 have HB1 := Lib.hid (below_then HBY.out hb1)
 have H1B := Lib.hid h1B
 clear hb1 a0 a1 a2 a3 h1B
 go_upto_region 2 with fail
 have h2B := set4 H1B.out (.float .f64 clo) (.float .f64 chi) (.bool clop) (.bool chop)
 have hb2 := below_set4 HB1.out (Nat.le_refl _) (.float .f64 clo) (.float .f64 chi) (.bool clop) (.bool chop)
 generalize ((((w1.setCell ⟨w.heap.size, 0, none⟩ (.float .f64 clo)).setCell ⟨w.heap.size, 1, none⟩ (.float .f64 chi)).setCell ⟨w.heap.size, 2, none⟩ (.bool clop)).setCell ⟨w.heap.size, 3, none⟩ (.bool chop)) = w2 at h2B hb2 ⊢
 obtain ⟨⟨d0, d1, d2, d3⟩, _⟩ := four_cells h2B
 have hn0 := (HT.out.below hb2).f1
 have hkeep : ∀ Z : World, Below w2.heap.size w2 Z → (fun w' : World => w'.cell? ⟨N, 1, none⟩ = some (.slice ae n cap) ∧ w'.cell? ⟨w.heap.size, 0, none⟩ = some (.float .f64 clo) ∧ w'.cell? ⟨w.heap.size, 1, none⟩ = some (.float .f64 chi) ∧ w'.cell? ⟨w.heap.size, 2, none⟩ = some (.bool clop) ∧ w'.cell? ⟨w.heap.size, 3, none⟩ = some (.bool chop)) Z := fun Z hZ => by
  refine ⟨?_, ?_, ?_, ?_, ?_⟩
  · exact (below_cell hZ _ (by rw [hn0]; rfl)).trans hn0
  · exact (below_cell hZ _ (by rw [d0]; rfl)).trans d0
  · exact (below_cell hZ _ (by rw [d1]; rfl)).trans d1
  · exact (below_cell hZ _ (by rw [d2]; rfl)).trans d2
  · exact (below_cell hZ _ (by rw [d3]; rfl)).trans d3
 have HKEEP := Lib.hid hkeep
 have HB2 := Lib.hid hb2
 have H2B := Lib.hid h2B
 clear hb2 h2B c0 c1 c2 c3 i0 i1 i2 i3 hkeep hn0 d0 d1 d2 d3
 refine wp_region_noPanic ?_
 refine wp_region_held_drew (S := (fun w' => w'.cell? ⟨N, 1, none⟩ = some (.slice ae n cap) ∧ w'.cell? ⟨w.heap.size, 0, none⟩ = some (.float .f64 clo) ∧ w'.cell? ⟨w.heap.size, 1, none⟩ = some (.float .f64 chi) ∧ w'.cell? ⟨w.heap.size, 2, none⟩ = some (.bool clop) ∧ w'.cell? ⟨w.heap.size, 3, none⟩ = some (.bool chop))) (by kernel_rfl) ?_ (fun hHeld0 => ?_)
 · refine HKEEP.out _ ?_; first | exact (Below.refl _ _).drew | exact below_then (Below.refl _ _).drew hb1
 refine wu 0 rfl ?_
 refine wu 1 rfl ?_
 refine wu 2 rfl ?_
 refine wu 3 rfl ?_
 refine wu 4 rfl ?_
 refine wy 5 rfl fun K hK => ?_
 go_simp
 refine (HPL.out _ (RowN.of_own (HT.out.below HB2.out.drew).2.2.1) (by omega)).mono ?_
 rintro e w3 ⟨rfl, hb1⟩
 go_wp2_with fail
 refine hK.out _ _ ?_ (fun hHeld1 => ?_)
 · refine HKEEP.out _ ?_; first | exact (Below.refl _ _).drew | exact below_then (Below.refl _ _).drew hb1
 clear hK K hHeld0
 try simp only [Act.put, List.setIfInBounds_toArray, List.set]
 refine wu 6 rfl ?_
 refine wu 7 rfl ?_
 refine wu 8 rfl ?_
 refine wu 9 rfl ?_
 refine wu 10 rfl ?_
 refine wpAnyH_done (by kernel_rfl) ?_ _
 refine NoPanic.normal ?_
 have h3B := (hb1.block w.heap.size (lt_of_block H2B.out)).trans H2B.out
 have HB3 := Lib.hid (below_then HB2.out.drew hb1)
 obtain ⟨⟨d0, d1, d2, d3⟩, _⟩ := four_cells h3B
 have H3B := Lib.hid h3B
 clear hb1 h3B
 go_wp2_with fail
 refine (HE.out _).mono ?_
 rintro e w4 ⟨rfl, hb4⟩
 have HB4 := Lib.hid (below_then HB3.out hb4)
 have h4B := (hb4.block w.heap.size (lt_of_block H3B.out)).trans H3B.out
 obtain ⟨⟨q0, q1, q2, q3⟩, _⟩ := four_cells h4B
 have hT4 := HT.out.below HB4.out
 have HT4 := Lib.hid hT4
 have h1 := hT4.f1
 have h0 := hT4.f0
 clear hb4 hT4 d0 d1 d2 d3
 go_wp2_with fail
 go_region
 go_wp2_with fail
 obtain ⟨Y, hY⟩ : ∃ Y, Y = (w4.alloc (.cells #[.float .f64 clo, .float .f64 chi, .bool clop, .bool chop, .int .i64 num] 184)).drew.drew := ⟨_, rfl⟩
 have hbY : Below w4.heap.size w4 Y := hY ▸ (below_alloc (Below.refl _ _) _).drew.drew
 have hTY := HT4.out.below hbY
 have y1 := hTY.f1
 have hYB : Y.heap[w4.heap.size]? = some (.cells #[.float .f64 clo, .float .f64 chi, .bool clop, .bool chop, .int .i64 num] 184 (0, 0)) := hY ▸ heap_alloc_new w4 _
 have hins := insP_any base ae n cap p (L.flatMap PI.cells) (PI.cells ⟨⟨clo, chi, clop, chop⟩, num⟩) w4.heap.size Y hTY.2.2.1 (cells_oneP L) hYB rfl (by simpa using cells_oneP [⟨⟨clo, chi, clop, chop⟩, num⟩]) (fun g hg => by
  rcases HT4.out.2.2.1.2 with ⟨h1, h0⟩ | ⟨g', cp, cur, h1, hb, hh, _⟩
  · injection h1 with h1 _ _
    rw [hg] at h1; cases h1
  · injection h1 with h1 _ _
    rw [hg, Option.some.injEq] at h1
    subst h1
    have := lt_of_block hh
    simp only
    omega) hpn (by omega) hTY.2.2.2.2.1
 have HI := Lib.hid hins
 have HTY := Lib.hid hTY
 have HBY2 := Lib.hid hbY
 clear hins hTY hbY hYB
 refine wp_region_noPanic ?_
 refine wp_region_held_drew (S := (fun _ => True)) (by kernel_rfl) ?_ (fun hHeld0 => ?_)
 · trivial
 refine wu 0 rfl ?_
 refine wu 1 rfl ?_
 refine wu 2 rfl ?_
 refine wu 3 rfl ?_
 refine wu 5 rfl ?_
 refine wu 7 rfl ?_
 refine wz 4 6 rfl (fun K hK => ?_) rfl fun K hK => ?_
 · skip
   go_simp
   refine hK.out _ _ ?_ (fun hHeld1 => ?_)
   · trivial
   clear hK K hHeld0
   try simp only [Act.put, List.setIfInBounds_toArray, List.set]
   refine wy 6 rfl fun K hK => ?_
   go_simp
   refine hK.out _ _ ?_ (fun hHeld2 => ?_)
   · trivial
   clear hK K hHeld1
   try simp only [Act.put, List.setIfInBounds_toArray, List.set]
   refine wu 8 rfl ?_
   refine wy 9 rfl fun K hK => ?_
   go_simp
   refine hK.out _ _ ?_ (fun hHeld3 => ?_)
   · trivial
   clear hK K hHeld2
   try simp only [Act.put, List.setIfInBounds_toArray, List.set]
   rw [← hY]
   clear hY
   refine wy 10 rfl fun K hK => ?_
   go_simp
   refine HI.out.mono ?_
   rintro e w5 ⟨ao3, cp3, rfl, hown3, hg3, hat3⟩
   have hN3 : w5.heap[N]? = some (.cells #[.int .i64 (most : Nat), .slice ae n cap] 113 (0, 0)) := (hg3.block N (lt_of_block HTY.out.1) (fun h => HT4.out.apart h.symm)).trans HTY.out.1
   have n1 : w5.cell? ⟨N, 1, none⟩ = some (.slice ae n cap) := by simp [World.cell?, hN3]
   have f1 : w5.frozen? ⟨N, 1, none⟩ = false := by simp [World.frozen?, hN3]
   have HO3 := Lib.hid hown3
   have HG3 := Lib.hid hg3
   have HA3 := Lib.hid hat3
   have HN3 := Lib.hid hN3
   clear hown3 hg3 hat3 hN3
   go_wp2_with fail
   refine hK.out _ _ ?_ (fun hHeld4 => ?_)
   · trivial
   clear hK K hHeld3
   try simp only [Act.put, List.setIfInBounds_toArray, List.set]
   refine wu 11 rfl ?_
   refine wu 12 rfl ?_
   refine wy 13 rfl fun K hK => ?_
   go_simp
   refine hK.out _ _ ?_ (fun hHeld5 => ?_)
   · trivial
   clear hK K hHeld4
   try simp only [Act.put, List.setIfInBounds_toArray, List.set]
   refine wpAnyH_done (by kernel_rfl) ?_ _
   refine NoPanic.normal ?_
   go_wp2
   go_ret
   exact PT.put HB4.out HBY2.out HTY.out (by omega) HOK.out HO3.out HG3.out HA3.out HN3.out
 · skip
   go_simp
   refine hK.out _ _ ?_ (fun hHeld6 => ?_)
   · trivial
   clear hK K hHeld0
   try simp only [Act.put, List.setIfInBounds_toArray, List.set]
   refine wu 8 rfl ?_
   refine wz 4 9 rfl (fun K hK => ?_) rfl fun K hK => ?_
   · skip
     go_simp
     refine hK.out _ _ ?_ (fun hHeld7 => ?_)
     · trivial
     clear hK K hHeld6
     try simp only [Act.put, List.setIfInBounds_toArray, List.set]
     refine wy 9 rfl fun K hK => ?_
     go_simp
     refine hK.out _ _ ?_ (fun hHeld8 => ?_)
     · trivial
     clear hK K hHeld7
     try simp only [Act.put, List.setIfInBounds_toArray, List.set]
     rw [← hY]
     clear hY
     refine wy 10 rfl fun K hK => ?_
     go_simp
     refine HI.out.mono ?_
     rintro e w5 ⟨ao3, cp3, rfl, hown3, hg3, hat3⟩
     have hN3 : w5.heap[N]? = some (.cells #[.int .i64 (most : Nat), .slice ae n cap] 113 (0, 0)) := (hg3.block N (lt_of_block HTY.out.1) (fun h => HT4.out.apart h.symm)).trans HTY.out.1
     have n1 : w5.cell? ⟨N, 1, none⟩ = some (.slice ae n cap) := by simp [World.cell?, hN3]
     have f1 : w5.frozen? ⟨N, 1, none⟩ = false := by simp [World.frozen?, hN3]
     have HO3 := Lib.hid hown3
     have HG3 := Lib.hid hg3
     have HA3 := Lib.hid hat3
     have HN3 := Lib.hid hN3
     clear hown3 hg3 hat3 hN3
     go_wp2_with fail
     refine hK.out _ _ ?_ (fun hHeld9 => ?_)
     · trivial
     clear hK K hHeld8
     try simp only [Act.put, List.setIfInBounds_toArray, List.set]
     refine wu 11 rfl ?_
     refine wu 12 rfl ?_
     refine wy 13 rfl fun K hK => ?_
     go_simp
     refine hK.out _ _ ?_ (fun hHeld10 => ?_)
     · trivial
     clear hK K hHeld9
     try simp only [Act.put, List.setIfInBounds_toArray, List.set]
     refine wpAnyH_done (by kernel_rfl) ?_ _
     refine NoPanic.normal ?_
     go_wp2
     go_ret
     exact PT.put HB4.out HBY2.out HTY.out (by omega) HOK.out HO3.out HG3.out HA3.out HN3.out
   · skip
     go_simp
     refine hK.out _ _ ?_ (fun hHeld11 => ?_)
     · trivial
     clear hK K hHeld6
     try simp only [Act.put, List.setIfInBounds_toArray, List.set]
     rw [← hY]
     clear hY
     refine wy 4 rfl fun K hK => ?_
     go_simp
     refine hK.out _ _ ?_ (fun hHeld12 => ?_)
     · trivial
     clear hK K hHeld11
     try simp only [Act.put, List.setIfInBounds_toArray, List.set]
     refine wy 10 rfl fun K hK => ?_
     go_simp
     refine HI.out.mono ?_
     rintro e w5 ⟨ao3, cp3, rfl, hown3, hg3, hat3⟩
     have hN3 : w5.heap[N]? = some (.cells #[.int .i64 (most : Nat), .slice ae n cap] 113 (0, 0)) := (hg3.block N (lt_of_block HTY.out.1) (fun h => HT4.out.apart h.symm)).trans HTY.out.1
     have n1 : w5.cell? ⟨N, 1, none⟩ = some (.slice ae n cap) := by simp [World.cell?, hN3]
     have f1 : w5.frozen? ⟨N, 1, none⟩ = false := by simp [World.frozen?, hN3]
     have HO3 := Lib.hid hown3
     have HG3 := Lib.hid hg3
     have HA3 := Lib.hid hat3
     have HN3 := Lib.hid hN3
     clear hown3 hg3 hat3 hN3
     go_wp2_with fail
     refine hK.out _ _ ?_ (fun hHeld13 => ?_)
     · trivial
     clear hK K hHeld12
     try simp only [Act.put, List.setIfInBounds_toArray, List.set]
     refine wu 11 rfl ?_
     refine wu 12 rfl ?_
     refine wy 13 rfl fun K hK => ?_
     go_simp
     refine hK.out _ _ ?_ (fun hHeld14 => ?_)
     · trivial
     clear hK K hHeld13
     try simp only [Act.put, List.setIfInBounds_toArray, List.set]
     refine wpAnyH_done (by kernel_rfl) ?_ _
     refine NoPanic.normal ?_
     go_wp2
     go_ret
     exact PT.put HB4.out HBY2.out HTY.out (by omega) HOK.out HO3.out HG3.out HA3.out HN3.out
set_option maxRecDepth 100000 in
set_option maxHeartbeats 12800000 in
theorem pput_full (base N most : Nat) (ae : Option Addr) (n cap : Nat) (L : List PI) (s : Spn) (hs : s.ok) (hne : emptyS (canonS s) = false) (num : Int) (hn1 : 1 ≤ num) (hn2 : num ≤ 1099511627776) (p : Nat) (hp : Turns (fun v : PI => cmpS v.s (canonS s)) L p) (hF : foundAt (fun v : PI => cmpS v.s (canonS s)) L p = false) (hfull : n = most) (w : World) (hT : PT w base N most ae n cap L) :
 Calls Tryz.prog 62 #[.pointer (some ⟨N, 0, none⟩), .agg #[.float .f64 s.lo, .float .f64 s.hi, .bool s.lop, .bool s.hop], .int .i64 num] w (RetBox w (.int .i64 3)) := by
 have hc := canonS_any s hs
 have hok := canonS_ok s hs
 generalize canonS s = C at hc hok hne hp hF
 have he := emptyS_any C hok
 rw [hne] at he
 have hpl := fun W hW hb => psearch_any C hok L hT.2.2.2.2.2.2.2 p hp ae n cap W hW hT.2.1 hb
 rw [hF] at hpl
 subst hfull
 clear hF
 have hb64 : n ≤ 64 := by have := hT.2.2.2.2.2.1; have := hT.2.2.2.2.2.2.1; omega
 have hpn : p ≤ n := by rw [← hT.2.1]; exact hp.1
 have hm1 : ¬ num < 1 := by omega
 have hm2 : ¬ 1099511627776 < num := by omega
 obtain ⟨lo, hi, lop, hop⟩ := s
 obtain ⟨clo, chi, clop, chop⟩ := C
 unfold Spn.agg at hc he
 simp only at hc he hpl ⊢
 have HC := Lib.hid hc
 have HE := Lib.hid he
 have HPL := Lib.hid hpl
 have HT := Lib.hid hT
 clear hc he hpl hp hs hne hok
 obtain ⟨Y, hY⟩ : ∃ Y, Y = w.alloc (.cells #[.float .f64 lo, .float .f64 hi, .bool lop, .bool hop] 101) := ⟨_, rfl⟩
 have hbY : Below w.heap.size w Y := hY ▸ below_alloc (Below.refl _ _) _
 have hYB : Y.heap[w.heap.size]? = some (.cells #[.float .f64 lo, .float .f64 hi, .bool lop, .bool hop] 101 (0, 0)) := hY ▸ heap_alloc_new w _
 have HBY := Lib.hid hbY
 have HYB := Lib.hid hYB
 obtain ⟨⟨a0, a1, a2, a3⟩, _⟩ := four_cells hYB
 clear hbY hYB hT
 go_enter Tryz.func62, Tryz.ntmps62
 go_upto_region 1 with fail
 rw [← hY]
 clear hY
 go_wp2_with fail
 refine (HC.out _).mono ?_
 rintro e w1 ⟨rfl, hb1⟩
 have h1B := (hb1.block w.heap.size (lt_of_block HYB.out)).trans HYB.out
 obtain ⟨⟨c0, c1, c2, c3⟩, i0, i1, i2, i3⟩ := four_cells h1B
 have HB1 := Lib.hid (below_then HBY.out hb1)
 have H1B := Lib.hid h1B
 clear hb1 a0 a1 a2 a3 h1B
 go_upto_region 2 with fail
 have h2B := set4 H1B.out (.float .f64 clo) (.float .f64 chi) (.bool clop) (.bool chop)
 have hb2 := below_set4 HB1.out (Nat.le_refl _) (.float .f64 clo) (.float .f64 chi) (.bool clop) (.bool chop)
 generalize ((((w1.setCell ⟨w.heap.size, 0, none⟩ (.float .f64 clo)).setCell ⟨w.heap.size, 1, none⟩ (.float .f64 chi)).setCell ⟨w.heap.size, 2, none⟩ (.bool clop)).setCell ⟨w.heap.size, 3, none⟩ (.bool chop)) = w2 at h2B hb2 ⊢
 obtain ⟨⟨d0, d1, d2, d3⟩, _⟩ := four_cells h2B
 have hn0 := (HT.out.below hb2).f1
 have hkeep : ∀ Z : World, Below w2.heap.size w2 Z → (fun w' : World => w'.cell? ⟨N, 1, none⟩ = some (.slice ae n cap) ∧ w'.cell? ⟨w.heap.size, 0, none⟩ = some (.float .f64 clo) ∧ w'.cell? ⟨w.heap.size, 1, none⟩ = some (.float .f64 chi) ∧ w'.cell? ⟨w.heap.size, 2, none⟩ = some (.bool clop) ∧ w'.cell? ⟨w.heap.size, 3, none⟩ = some (.bool chop)) Z := fun Z hZ => by
  refine ⟨?_, ?_, ?_, ?_, ?_⟩
  · exact (below_cell hZ _ (by rw [hn0]; rfl)).trans hn0
  · exact (below_cell hZ _ (by rw [d0]; rfl)).trans d0
  · exact (below_cell hZ _ (by rw [d1]; rfl)).trans d1
  · exact (below_cell hZ _ (by rw [d2]; rfl)).trans d2
  · exact (below_cell hZ _ (by rw [d3]; rfl)).trans d3
 have HKEEP := Lib.hid hkeep
 have HB2 := Lib.hid hb2
 have H2B := Lib.hid h2B
 clear hb2 h2B c0 c1 c2 c3 i0 i1 i2 i3 hkeep hn0 d0 d1 d2 d3
 refine wp_region_noPanic ?_
 refine wp_region_held_drew (S := (fun w' => w'.cell? ⟨N, 1, none⟩ = some (.slice ae n cap) ∧ w'.cell? ⟨w.heap.size, 0, none⟩ = some (.float .f64 clo) ∧ w'.cell? ⟨w.heap.size, 1, none⟩ = some (.float .f64 chi) ∧ w'.cell? ⟨w.heap.size, 2, none⟩ = some (.bool clop) ∧ w'.cell? ⟨w.heap.size, 3, none⟩ = some (.bool chop))) (by kernel_rfl) ?_ (fun hHeld0 => ?_)
 · refine HKEEP.out _ ?_; first | exact (Below.refl _ _).drew | exact below_then (Below.refl _ _).drew hb1
 refine wu 0 rfl ?_
 refine wu 1 rfl ?_
 refine wu 2 rfl ?_
 refine wu 3 rfl ?_
 refine wu 4 rfl ?_
 refine wy 5 rfl fun K hK => ?_
 go_simp
 refine (HPL.out _ (RowN.of_own (HT.out.below HB2.out.drew).2.2.1) (by omega)).mono ?_
 rintro e w3 ⟨rfl, hb1⟩
 go_wp2_with fail
 refine hK.out _ _ ?_ (fun hHeld1 => ?_)
 · refine HKEEP.out _ ?_; first | exact (Below.refl _ _).drew | exact below_then (Below.refl _ _).drew hb1
 clear hK K hHeld0
 try simp only [Act.put, List.setIfInBounds_toArray, List.set]
 refine wu 6 rfl ?_
 refine wu 7 rfl ?_
 refine wu 8 rfl ?_
 refine wu 9 rfl ?_
 refine wu 10 rfl ?_
 refine wpAnyH_done (by kernel_rfl) ?_ _
 refine NoPanic.normal ?_
 have h3B := (hb1.block w.heap.size (lt_of_block H2B.out)).trans H2B.out
 have HB3 := Lib.hid (below_then HB2.out.drew hb1)
 obtain ⟨⟨d0, d1, d2, d3⟩, _⟩ := four_cells h3B
 have H3B := Lib.hid h3B
 clear hb1 h3B
 go_wp2_with fail
 refine (HE.out _).mono ?_
 rintro e w4 ⟨rfl, hb4⟩
 have HB4 := Lib.hid (below_then HB3.out hb4)
 have hT4 := HT.out.below HB4.out
 have HT4 := Lib.hid hT4
 have h1 := hT4.f1
 have h0 := hT4.f0
 clear hb4 hT4 d0 d1 d2 d3
 go_wp2_with fail
 go_region
 go_wp2
 go_ret
 exact ⟨rfl, HB4.out.drew⟩
end Go.Proofs.YtpknmfmpiachkaaGreat
