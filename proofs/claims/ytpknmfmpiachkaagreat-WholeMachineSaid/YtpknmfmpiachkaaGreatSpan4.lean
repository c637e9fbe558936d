/- Spans: their form. -/
import Derived.Test.YtpknmfmpiachkaaGreatLow
import Derived.Test.YtpknmfmpiachkaaGreatFlo4
import Derived.Deep.RegionWith
import Derived.Deep.CutRange
namespace Go.Proofs.YtpknmfmpiachkaaGreat
open Go.RowKit
@[go_sem] theorem store_float (a : Addr) (x : Nat) (w : World) : (store a (.float .f64 x)).run Tryz.prog w = stored Tryz.prog w a (.float .f64 x) .plain := run_store Tryz.prog w a _ .plain rfl
structure Spn where
 lo : Nat
 hi : Nat
 lop : Bool
 hop : Bool
def Spn.cells (s : Spn) : List Value := [.float .f64 s.lo, .float .f64 s.hi, .bool s.lop, .bool s.hop]
def Spn.agg (s : Spn) : Value := .agg #[.float .f64 s.lo, .float .f64 s.hi, .bool s.lop, .bool s.hop]
def Spn.ok (s : Spn) : Prop := s.lo < 18446744073709551616 ∧ s.hi < 18446744073709551616
def noneS : Spn := ⟨0, 0, true, true⟩
def rightS (s : Spn) : Bool := !Flo.nan s.lo && !Flo.nan s.hi
def badS (s : Spn) : Bool := !rightS s || Flo.flt s.hi s.lo || (Flo.feq s.lo s.hi && (s.lop || s.hop))
def loS (s : Spn) : Nat := if s.lop then Flo.next (Flo.canon s.lo) else Flo.canon s.lo
def hiS (s : Spn) : Nat := if s.hop then Flo.prev (Flo.canon s.hi) else Flo.canon s.hi
def canonS (s : Spn) : Spn := if badS s then noneS else if Flo.flt (hiS s) (loS s) then noneS else ⟨loS s, hiS s, false, false⟩
theorem loS_lt (s : Spn) (h : s.ok) : loS s < 18446744073709551616 := by
 unfold loS; split
 · exact Flo.next_lt _ (Flo.canon_lt _ h.1)
 · exact Flo.canon_lt _ h.1
theorem hiS_lt (s : Spn) (h : s.ok) : hiS s < 18446744073709551616 := by
 unfold hiS; split
 · exact Flo.prev_lt _ (Flo.canon_lt _ h.2)
 · exact Flo.canon_lt _ h.2
theorem canonS_ok (s : Spn) (h : s.ok) : (canonS s).ok := by
 unfold canonS; split
 · exact ⟨by decide, by decide⟩
 · split
   · exact ⟨by decide, by decide⟩
   · exact ⟨loS_lt s h, hiS_lt s h⟩
theorem load_span {w : World} {B : Nat} {c0 c1 c2 c3 : Value} (h : w.heap[B]? = some (.cells #[c0, c1, c2, c3] 101 (0, 0))) : (loadVar 101 ⟨B, 0, none⟩).run Tryz.prog w = .ok (.agg #[c0, c1, c2, c3]) w := by
 refine run_loadVar_mid w B 0 _ [c0, c1, c2, c3] _ (fun j v hv => ?_) Tryz.underlying101 rfl (by kernel_rfl)
 simp only [World.cell?, h, Nat.zero_add]
 rw [← hv]
 simp
theorem four_cells {w : World} {B : Nat} {T : TypeId} {c0 c1 c2 c3 : Value} (h : w.heap[B]? = some (.cells #[c0, c1, c2, c3] T (0, 0))) :
 (w.cell? ⟨B, 0, none⟩ = some c0 ∧ w.cell? ⟨B, 1, none⟩ = some c1 ∧ w.cell? ⟨B, 2, none⟩ = some c2 ∧ w.cell? ⟨B, 3, none⟩ = some c3) ∧
 (w.frozen? ⟨B, 0, none⟩ = false ∧ w.frozen? ⟨B, 1, none⟩ = false ∧ w.frozen? ⟨B, 2, none⟩ = false ∧ w.frozen? ⟨B, 3, none⟩ = false) := by
 refine ⟨⟨?_, ?_, ?_, ?_⟩, ?_, ?_, ?_, ?_⟩ <;> simp [World.cell?, World.frozen?, h]
structure Bel (w w' : World) : Prop where
 below : Below w.heap.size w w'
 drawn : w.drawn ≤ w'.drawn
theorem Bel.refl (w : World) : Bel w w := ⟨Below.refl _ _, Nat.le_refl _⟩
theorem bel_alloc {w a : World} (h : Bel w a) (o : Obj) : Bel w (a.alloc o) := ⟨below_alloc h.below o, h.drawn⟩
theorem bel_then {w a b : World} (h : Bel w a) (k : Bel a b) : Bel w b := ⟨below_then h.below k.below, Nat.le_trans h.drawn k.drawn⟩
theorem bel_set {w a : World} (h : Bel w a) {g i : Nat} (v : Value) (hg : w.heap.size ≤ g) : Bel w (a.setCell ⟨g, i, none⟩ v) := ⟨below_set h.below v hg, h.drawn⟩
theorem bel_drewN {w a : World} (h : Bel w a) (n : Nat) : Bel w (a.drewN n) := ⟨below_drewN h.below n, Nat.le_trans h.drawn (Nat.le_add_right _ _)⟩
theorem Bel.drew {w a : World} (h : Bel w a) : Bel w a.drew := bel_drewN h 1
theorem bel_set4 {w a : World} (h : Bel w a) {B : Nat} (hB : w.heap.size ≤ B) (v0 v1 v2 v3 : Value) :
 Bel w ((((a.setCell ⟨B, 0, none⟩ v0).setCell ⟨B, 1, none⟩ v1).setCell ⟨B, 2, none⟩ v2).setCell ⟨B, 3, none⟩ v3) :=
 bel_set (bel_set (bel_set (bel_set h v0 hB) v1 hB) v2 hB) v3 hB
def RetBel (w : World) (v : Value) (e : Ending) (w' : World) : Prop := e = .returned v ∧ Bel w w'
theorem RetBel.box {w : World} {v : Value} {e : Ending} {w' : World} (h : RetBel w v e w') : RetBox w v e w' := ⟨h.1, h.2.below⟩
theorem quiet_ret {P : Program} {f : FuncId} {args : Array Value} {w : World} {n : Nat} {v : Value} (h : Calls P f args (w.drewN n) fun e w' => e = .returned v ∧ w.drewN n = w') : Calls P f args (w.drewN n) fun e w'' => e = .returned v ∧ ∃ m, w'' = w.drewN m :=
 h.mono fun _ _ ⟨he, hm⟩ => ⟨he, n, hm.symm⟩
set_option maxHeartbeats 800000 in
theorem noneB_any (w : World) : Calls Tryz.prog 126 #[] w (RetBel w (.agg #[.float .f64 0, .float .f64 0, .bool true, .bool true])) := by
 go_enter Tryz.func126, Tryz.ntmps126
 go_wp2_with fail
 exact bodyPost_ret (results_cell Tryz.results126 rfl (load_span (heap_alloc_new w _))) rfl ⟨rfl, bel_alloc (Bel.refl _) _⟩
theorem none_any (w : World) : Calls Tryz.prog 126 #[] w (RetBox w (.agg #[.float .f64 0, .float .f64 0, .bool true, .bool true])) := (noneB_any w).mono fun _ _ h => h.box
set_option maxHeartbeats 800000 in
theorem rightB_any (s : Spn) (w : World) : Calls Tryz.prog 125 #[s.agg] w (RetBel w (.bool (rightS s))) := by
 unfold Spn.agg
 have n1 := isNaN_any s.lo
 have n2 := isNaN_any s.hi
 have N1 := Lib.hid n1
 have N2 := Lib.hid n2
 clear n1 n2
 obtain ⟨R, hR⟩ : ∃ R, R = rightS s := ⟨_, rfl⟩
 rw [← hR]
 unfold rightS at hR
 cases h1 : Flo.nan s.lo with
 | true =>
   rw [h1] at N1 hR
   have HR := Lib.hid hR
   clear hR h1
   go_enter Tryz.func125, Tryz.ntmps125
   go_wp2_with fail
   refine (N1.out _).mono ?_
   rintro e w' ⟨rfl, rfl⟩
   go_wp2_with fail
   go_ret
   exact ⟨by rw [HR.out]; rfl, bel_alloc (Bel.refl _) _⟩
 | false =>
   rw [h1] at N1 hR
   have HR := Lib.hid hR
   clear hR h1
   go_enter Tryz.func125, Tryz.ntmps125
   go_wp2_with fail
   refine (N1.out _).mono ?_
   rintro e w' ⟨rfl, rfl⟩
   go_wp2_with fail
   refine (N2.out _).mono ?_
   rintro e w' ⟨rfl, rfl⟩
   go_wp2_with fail
   go_ret
   exact ⟨by rw [HR.out]; rfl, bel_alloc (Bel.refl _) _⟩
end Go.Proofs.YtpknmfmpiachkaaGreat
namespace Go.Proofs.YtpknmfmpiachkaaGreat
open Go.RowKit
theorem set4 {w : World} {B : Nat} {T : TypeId} {fr : Nat × Nat} {a0 a1 a2 a3 : Value} (h : w.heap[B]? = some (.cells #[a0, a1, a2, a3] T fr)) (v0 v1 v2 v3 : Value) :
 ((((w.setCell ⟨B, 0, none⟩ v0).setCell ⟨B, 1, none⟩ v1).setCell ⟨B, 2, none⟩ v2).setCell ⟨B, 3, none⟩ v3).heap[B]? = some (.cells #[v0, v1, v2, v3] T fr) :=
 set_block (i := 3) (set_block (i := 2) (set_block (i := 1) (set_block (i := 0) h v0) v1) v2) v3
theorem below_set4 {w a : World} (h : Below w.heap.size w a) {B : Nat} (hB : w.heap.size ≤ B) (v0 v1 v2 v3 : Value) :
 Below w.heap.size w ((((a.setCell ⟨B, 0, none⟩ v0).setCell ⟨B, 1, none⟩ v1).setCell ⟨B, 2, none⟩ v2).setCell ⟨B, 3, none⟩ v3) :=
 below_set (below_set (below_set (below_set h v0 hB) v1 hB) v2 hB) v3 hB
set_option maxRecDepth 100000 in
set_option maxHeartbeats 3200000 in
theorem canonB_any (s : Spn) (hs : s.ok) (w : World) : Calls Tryz.prog 92 #[s.agg] w (RetBel w (canonS s).agg) := by
 have hr := rightB_any s
 unfold Spn.agg at hr ⊢
 obtain ⟨lo, hi, lop, hop⟩ := s
 simp only at hr ⊢
 obtain ⟨hlo, hhi⟩ := hs
 simp only at hlo hhi
 have hgt := Flo.run_gt lo hi hlo hhi
 have heq := Flo.run_eq lo hi hlo hhi
 obtain ⟨C, hC⟩ : ∃ C, C = canonS ⟨lo, hi, lop, hop⟩ := ⟨_, rfl⟩
 rw [← hC]
 unfold canonS at hC
 obtain ⟨W, hW⟩ : ∃ W, W = (w.alloc (.cells #[.float .f64 lo, .float .f64 hi, .bool lop, .bool hop] 101)).alloc (.cells #[.float .f64 0, .float .f64 0, .bool false, .bool false] 101) := ⟨_, rfl⟩
 have hWs : W.heap.size = w.heap.size + 2 := by rw [hW, World.size_alloc, World.size_alloc]
 have hB : W.heap[w.heap.size]? = some (.cells #[.float .f64 lo, .float .f64 hi, .bool lop, .bool hop] 101 (0, 0)) := hW ▸ alloc_far (heap_alloc_new w _) (by rw [World.size_alloc]; omega)
 have hR : W.heap[w.heap.size + 1]? = some (.cells #[.float .f64 0, .float .f64 0, .bool false, .bool false] 101 (0, 0)) := hW ▸ alloc_new1 _ _ _
 have hbw : Bel w W := hW ▸ bel_alloc (bel_alloc (Bel.refl _) _) _
 have key : ∀ (b : Bool), b = false ∨ (b = true ∧ Flo.flt hi lo = true) ∨ (b = true ∧ Flo.flt hi lo = false ∧ Flo.feq lo hi = true ∧ (lop = true ∨ lop = false ∧ hop = true)) ∨ (b = true ∧ Flo.flt hi lo = false ∧ (Flo.feq lo hi = false ∨ Flo.feq lo hi = true ∧ lop = false ∧ hop = false)) := fun b => by
  cases b <;> cases Flo.flt hi lo <;> cases Flo.feq lo hi <;> cases lop <;> cases hop <;> simp
 obtain ⟨R, hRR⟩ : ∃ R, rightS ⟨lo, hi, lop, hop⟩ = R := ⟨_, rfl⟩
 replace key := key R
 have hbad : badS ⟨lo, hi, lop, hop⟩ = (!R || Flo.flt hi lo || (Flo.feq lo hi && (lop || hop))) := by unfold badS; rw [hRR]
 rw [hbad] at hC
 rw [hRR] at hr
 clear hRR hbad
 have HR := Lib.hid hr
 have HBW := Lib.hid hbw
 have HBB := Lib.hid hB
 have HRR := Lib.hid hR
 have HWS := Lib.hid hWs
 have HW := Lib.hid hW
 clear hr hB hR hbw hWs hW
 rcases key with rfl | ⟨rfl, hlt⟩ | ⟨rfl, hlt, hfe, hop'⟩ | ⟨rfl, hlt, hrest⟩
 · have HC : Hid (C = noneS) := by show _ = _; rw [hC]; rfl
   clear hC hgt heq
   go_enter Tryz.func92, Tryz.ntmps92
   go_wp2_with fail
   rw [← HW.out]
   refine (HR.out _).mono ?_
   rintro e w1 ⟨rfl, hb1⟩
   have h1R := (hb1.below.block (w.heap.size + 1) (by have := HWS.out; omega)).trans HRR.out
   have h1B := (hb1.below.block w.heap.size (by have := HWS.out; omega)).trans HBB.out
   have hb1' := bel_then HBW.out hb1
   obtain ⟨⟨b0, b1, b2, b3⟩, _⟩ := four_cells h1B
   obtain ⟨⟨c0, c1, c2, c3⟩, f0, f1, f2, f3⟩ := four_cells h1R
   have H1R := Lib.hid h1R
   have H1B := Lib.hid h1B
   have HB1 := Lib.hid hb1'
   clear h1R h1B hb1' hb1
   go_wp2_with fail
   refine (noneB_any _).mono ?_
   rintro e w2 ⟨rfl, hb2⟩
   have h2R := (hb2.below.block (w.heap.size + 1) (lt_of_block H1R.out)).trans H1R.out
   have H2R := Lib.hid h2R
   have HB2 := Lib.hid hb2
   obtain ⟨⟨d0, d1, d2, d3⟩, g0, g1, g2, g3⟩ := four_cells h2R
   clear h2R hb2
   go_wp2_with fail
   exact bodyPost_ret (results_cell Tryz.results92 rfl (load_span (set4 H2R.out _ _ _ _))) rfl ⟨by rw [HC.out]; rfl, bel_set4 (bel_then HB1.out HB2.out) (by omega) _ _ _ _⟩
 · rw [hlt] at hgt
   have HC : Hid (C = noneS) := by show _ = _; rw [hC, hlt]; rfl
   clear hC heq hlt
   go_enter Tryz.func92, Tryz.ntmps92
   go_wp2_with fail
   rw [← HW.out]
   refine (HR.out _).mono ?_
   rintro e w1 ⟨rfl, hb1⟩
   have h1R := (hb1.below.block (w.heap.size + 1) (by have := HWS.out; omega)).trans HRR.out
   have h1B := (hb1.below.block w.heap.size (by have := HWS.out; omega)).trans HBB.out
   have hb1' := bel_then HBW.out hb1
   obtain ⟨⟨b0, b1, b2, b3⟩, _⟩ := four_cells h1B
   obtain ⟨⟨c0, c1, c2, c3⟩, f0, f1, f2, f3⟩ := four_cells h1R
   have H1R := Lib.hid h1R
   have H1B := Lib.hid h1B
   have HB1 := Lib.hid hb1'
   clear h1R h1B hb1' hb1
   go_wp2_with fail
   refine (noneB_any _).mono ?_
   rintro e w2 ⟨rfl, hb2⟩
   have h2R := (hb2.below.block (w.heap.size + 1) (lt_of_block H1R.out)).trans H1R.out
   have H2R := Lib.hid h2R
   have HB2 := Lib.hid hb2
   obtain ⟨⟨d0, d1, d2, d3⟩, g0, g1, g2, g3⟩ := four_cells h2R
   clear h2R hb2
   go_wp2_with fail
   exact bodyPost_ret (results_cell Tryz.results92 rfl (load_span (set4 H2R.out _ _ _ _))) rfl ⟨by rw [HC.out]; rfl, bel_set4 (bel_then HB1.out HB2.out) (by omega) _ _ _ _⟩
 · rw [hlt] at hgt
   rw [hfe] at heq
   have HC : Hid (C = noneS) := by show _ = _; rw [hC, hlt, hfe]; rcases hop' with rfl | ⟨rfl, rfl⟩ <;> simp
   clear hC hlt hfe
   rcases hop' with rfl | ⟨rfl, rfl⟩
   · go_enter Tryz.func92, Tryz.ntmps92
     go_wp2_with fail
     rw [← HW.out]
     refine (HR.out _).mono ?_
     rintro e w1 ⟨rfl, hb1⟩
     have h1R := (hb1.below.block (w.heap.size + 1) (by have := HWS.out; omega)).trans HRR.out
     have h1B := (hb1.below.block w.heap.size (by have := HWS.out; omega)).trans HBB.out
     have hb1' := bel_then HBW.out hb1
     obtain ⟨⟨b0, b1, b2, b3⟩, _⟩ := four_cells h1B
     obtain ⟨⟨c0, c1, c2, c3⟩, f0, f1, f2, f3⟩ := four_cells h1R
     have H1R := Lib.hid h1R
     have H1B := Lib.hid h1B
     have HB1 := Lib.hid hb1'
     clear h1R h1B hb1' hb1
     go_wp2_with fail
     refine (noneB_any _).mono ?_
     rintro e w2 ⟨rfl, hb2⟩
     have h2R := (hb2.below.block (w.heap.size + 1) (lt_of_block H1R.out)).trans H1R.out
     have H2R := Lib.hid h2R
     have HB2 := Lib.hid hb2
     obtain ⟨⟨d0, d1, d2, d3⟩, g0, g1, g2, g3⟩ := four_cells h2R
     clear h2R hb2
     go_wp2_with fail
     exact bodyPost_ret (results_cell Tryz.results92 rfl (load_span (set4 H2R.out _ _ _ _))) rfl ⟨by rw [HC.out]; rfl, bel_set4 (bel_then HB1.out HB2.out) (by omega) _ _ _ _⟩
   · go_enter Tryz.func92, Tryz.ntmps92
     go_wp2_with fail
     rw [← HW.out]
     refine (HR.out _).mono ?_
     rintro e w1 ⟨rfl, hb1⟩
     have h1R := (hb1.below.block (w.heap.size + 1) (by have := HWS.out; omega)).trans HRR.out
     have h1B := (hb1.below.block w.heap.size (by have := HWS.out; omega)).trans HBB.out
     have hb1' := bel_then HBW.out hb1
     obtain ⟨⟨b0, b1, b2, b3⟩, _⟩ := four_cells h1B
     obtain ⟨⟨c0, c1, c2, c3⟩, f0, f1, f2, f3⟩ := four_cells h1R
     have H1R := Lib.hid h1R
     have H1B := Lib.hid h1B
     have HB1 := Lib.hid hb1'
     clear h1R h1B hb1' hb1
     go_wp2_with fail
     refine (noneB_any _).mono ?_
     rintro e w2 ⟨rfl, hb2⟩
     have h2R := (hb2.below.block (w.heap.size + 1) (lt_of_block H1R.out)).trans H1R.out
     have H2R := Lib.hid h2R
     have HB2 := Lib.hid hb2
     obtain ⟨⟨d0, d1, d2, d3⟩, g0, g1, g2, g3⟩ := four_cells h2R
     clear h2R hb2
     go_wp2_with fail
     exact bodyPost_ret (results_cell Tryz.results92 rfl (load_span (set4 H2R.out _ _ _ _))) rfl ⟨by rw [HC.out]; rfl, bel_set4 (bel_then HB1.out HB2.out) (by omega) _ _ _ _⟩
 · have hbf : (!true || Flo.flt hi lo || (Flo.feq lo hi && (lop || hop))) = false := by
    rw [hlt]
    rcases hrest with h | ⟨h, rfl, rfl⟩
    · rw [h]; rfl
    · rw [h]; rfl
   rw [hbf, if_neg (by simp)] at hC
   rw [hlt] at hgt
   clear hbf hlt
   have nx := next_any (Flo.canon lo)
   have pv := prev_any (Flo.canon hi)
   have NX := Lib.hid fun w => nx w (Flo.canon_lt _ hlo)
   have PV := Lib.hid fun w => pv w (Flo.canon_lt _ hhi)
   clear nx pv
   have hcmp := Flo.run_gt (loS ⟨lo, hi, lop, hop⟩) (hiS ⟨lo, hi, lop, hop⟩) (loS_lt _ ⟨hlo, hhi⟩) (hiS_lt _ ⟨hlo, hhi⟩)
   obtain ⟨F, hF⟩ : ∃ F, F = Flo.flt (hiS ⟨lo, hi, lop, hop⟩) (loS ⟨lo, hi, lop, hop⟩) := ⟨_, rfl⟩
   rw [← hF] at hC hcmp
   clear hF
   unfold loS hiS at hcmp hC
   simp only at hcmp hC
   rcases hrest with hfe | ⟨hfe, rfl, rfl⟩
   · rw [hfe] at heq
     clear hfe
     cases lop with
     | true =>
       cases hop with
       | true =>
         simp only [if_true] at hcmp hC
         cases F with
         | true =>
           have HC : Hid (C = noneS) := by show _ = _; rw [hC]; rfl
           clear hC
           go_enter Tryz.func92, Tryz.ntmps92
           go_wp2_with fail
           rw [← HW.out]
           refine (HR.out _).mono ?_
           rintro e w1 ⟨rfl, hb1⟩
           have h1R := (hb1.below.block (w.heap.size + 1) (by have := HWS.out; omega)).trans HRR.out
           have h1B := (hb1.below.block w.heap.size (by have := HWS.out; omega)).trans HBB.out
           have hb1' := bel_then HBW.out hb1
           obtain ⟨⟨b0, b1, b2, b3⟩, _⟩ := four_cells h1B
           obtain ⟨⟨c0, c1, c2, c3⟩, f0, f1, f2, f3⟩ := four_cells h1R
           have H1R := Lib.hid h1R
           have H1B := Lib.hid h1B
           have HB1 := Lib.hid hb1'
           clear h1R h1B hb1' hb1
           go_wp2_with fail
           go_quiet ((go_at_call 106; exact quiet_ret (canon_any _ _)))
           go_wp2_with fail
           refine (NX.out _).mono ?_
           rintro e w2 ⟨rfl, rfl⟩
           go_wp2_with fail
           refine (PV.out _).mono ?_
           rintro e w2 ⟨rfl, rfl⟩
           go_wp2_with fail
           refine (noneB_any _).mono ?_
           rintro e w2 ⟨rfl, hb2⟩
           have h2R := (hb2.below.block (w.heap.size + 1) (lt_of_block H1R.out)).trans H1R.out
           have H2R := Lib.hid h2R
           have HB2 := Lib.hid hb2
           obtain ⟨⟨d0, d1, d2, d3⟩, g0, g1, g2, g3⟩ := four_cells h2R
           clear h2R hb2
           go_wp2_with fail
           exact bodyPost_ret (results_cell Tryz.results92 rfl (load_span (set4 H2R.out _ _ _ _))) rfl ⟨by rw [HC.out]; rfl, bel_set4 (bel_then (bel_drewN HB1.out nq) HB2.out) (by omega) _ _ _ _⟩
         | false =>
           have HC := Lib.hid hC
           clear hC
           go_enter Tryz.func92, Tryz.ntmps92
           go_wp2_with fail
           rw [← HW.out]
           refine (HR.out _).mono ?_
           rintro e w1 ⟨rfl, hb1⟩
           have h1R := (hb1.below.block (w.heap.size + 1) (by have := HWS.out; omega)).trans HRR.out
           have h1B := (hb1.below.block w.heap.size (by have := HWS.out; omega)).trans HBB.out
           have hb1' := bel_then HBW.out hb1
           obtain ⟨⟨b0, b1, b2, b3⟩, _⟩ := four_cells h1B
           obtain ⟨⟨c0, c1, c2, c3⟩, f0, f1, f2, f3⟩ := four_cells h1R
           have H1R := Lib.hid h1R
           have H1B := Lib.hid h1B
           have HB1 := Lib.hid hb1'
           clear h1R h1B hb1' hb1
           go_wp2_with fail
           go_quiet ((go_at_call 106; exact quiet_ret (canon_any _ _)))
           go_wp2_with fail
           refine (NX.out _).mono ?_
           rintro e w2 ⟨rfl, rfl⟩
           go_wp2_with fail
           refine (PV.out _).mono ?_
           rintro e w2 ⟨rfl, rfl⟩
           go_wp2_with fail
           have h2R : (w1.drewN nq).heap[w.heap.size + 1]? = _ := H1R.out
           exact bodyPost_ret (results_cell Tryz.results92 rfl (load_span (set4 h2R _ _ _ _))) rfl ⟨by rw [HC.out]; rfl, bel_set4 (bel_drewN HB1.out _) (by omega) _ _ _ _⟩
       | false =>
         simp only [Bool.false_eq_true, if_false, if_true] at hcmp hC
         cases F with
         | true =>
           have HC : Hid (C = noneS) := by show _ = _; rw [hC]; rfl
           clear hC
           go_enter Tryz.func92, Tryz.ntmps92
           go_wp2_with fail
           rw [← HW.out]
           refine (HR.out _).mono ?_
           rintro e w1 ⟨rfl, hb1⟩
           have h1R := (hb1.below.block (w.heap.size + 1) (by have := HWS.out; omega)).trans HRR.out
           have h1B := (hb1.below.block w.heap.size (by have := HWS.out; omega)).trans HBB.out
           have hb1' := bel_then HBW.out hb1
           obtain ⟨⟨b0, b1, b2, b3⟩, _⟩ := four_cells h1B
           obtain ⟨⟨c0, c1, c2, c3⟩, f0, f1, f2, f3⟩ := four_cells h1R
           have H1R := Lib.hid h1R
           have H1B := Lib.hid h1B
           have HB1 := Lib.hid hb1'
           clear h1R h1B hb1' hb1
           go_wp2_with fail
           go_quiet ((go_at_call 106; exact quiet_ret (canon_any _ _)))
           go_wp2_with fail
           refine (NX.out _).mono ?_
           rintro e w2 ⟨rfl, rfl⟩
           go_wp2_with fail
           refine (noneB_any _).mono ?_
           rintro e w2 ⟨rfl, hb2⟩
           have h2R := (hb2.below.block (w.heap.size + 1) (lt_of_block H1R.out)).trans H1R.out
           have H2R := Lib.hid h2R
           have HB2 := Lib.hid hb2
           obtain ⟨⟨d0, d1, d2, d3⟩, g0, g1, g2, g3⟩ := four_cells h2R
           clear h2R hb2
           go_wp2_with fail
           exact bodyPost_ret (results_cell Tryz.results92 rfl (load_span (set4 H2R.out _ _ _ _))) rfl ⟨by rw [HC.out]; rfl, bel_set4 (bel_then (bel_drewN HB1.out nq) HB2.out) (by omega) _ _ _ _⟩
         | false =>
           have HC := Lib.hid hC
           clear hC
           go_enter Tryz.func92, Tryz.ntmps92
           go_wp2_with fail
           rw [← HW.out]
           refine (HR.out _).mono ?_
           rintro e w1 ⟨rfl, hb1⟩
           have h1R := (hb1.below.block (w.heap.size + 1) (by have := HWS.out; omega)).trans HRR.out
           have h1B := (hb1.below.block w.heap.size (by have := HWS.out; omega)).trans HBB.out
           have hb1' := bel_then HBW.out hb1
           obtain ⟨⟨b0, b1, b2, b3⟩, _⟩ := four_cells h1B
           obtain ⟨⟨c0, c1, c2, c3⟩, f0, f1, f2, f3⟩ := four_cells h1R
           have H1R := Lib.hid h1R
           have H1B := Lib.hid h1B
           have HB1 := Lib.hid hb1'
           clear h1R h1B hb1' hb1
           go_wp2_with fail
           go_quiet ((go_at_call 106; exact quiet_ret (canon_any _ _)))
           go_wp2_with fail
           refine (NX.out _).mono ?_
           rintro e w2 ⟨rfl, rfl⟩
           go_wp2_with fail
           have h2R : (w1.drewN nq).heap[w.heap.size + 1]? = _ := H1R.out
           exact bodyPost_ret (results_cell Tryz.results92 rfl (load_span (set4 h2R _ _ _ _))) rfl ⟨by rw [HC.out]; rfl, bel_set4 (bel_drewN HB1.out _) (by omega) _ _ _ _⟩
     | false =>
       cases hop with
       | true =>
         simp only [Bool.false_eq_true, if_false, if_true] at hcmp hC
         cases F with
         | true =>
           have HC : Hid (C = noneS) := by show _ = _; rw [hC]; rfl
           clear hC
           go_enter Tryz.func92, Tryz.ntmps92
           go_wp2_with fail
           rw [← HW.out]
           refine (HR.out _).mono ?_
           rintro e w1 ⟨rfl, hb1⟩
           have h1R := (hb1.below.block (w.heap.size + 1) (by have := HWS.out; omega)).trans HRR.out
           have h1B := (hb1.below.block w.heap.size (by have := HWS.out; omega)).trans HBB.out
           have hb1' := bel_then HBW.out hb1
           obtain ⟨⟨b0, b1, b2, b3⟩, _⟩ := four_cells h1B
           obtain ⟨⟨c0, c1, c2, c3⟩, f0, f1, f2, f3⟩ := four_cells h1R
           have H1R := Lib.hid h1R
           have H1B := Lib.hid h1B
           have HB1 := Lib.hid hb1'
           clear h1R h1B hb1' hb1
           go_wp2_with fail
           go_quiet ((go_at_call 106; exact quiet_ret (canon_any _ _)))
           go_wp2_with fail
           refine (PV.out _).mono ?_
           rintro e w2 ⟨rfl, rfl⟩
           go_wp2_with fail
           refine (noneB_any _).mono ?_
           rintro e w2 ⟨rfl, hb2⟩
           have h2R := (hb2.below.block (w.heap.size + 1) (lt_of_block H1R.out)).trans H1R.out
           have H2R := Lib.hid h2R
           have HB2 := Lib.hid hb2
           obtain ⟨⟨d0, d1, d2, d3⟩, g0, g1, g2, g3⟩ := four_cells h2R
           clear h2R hb2
           go_wp2_with fail
           exact bodyPost_ret (results_cell Tryz.results92 rfl (load_span (set4 H2R.out _ _ _ _))) rfl ⟨by rw [HC.out]; rfl, bel_set4 (bel_then (bel_drewN HB1.out nq) HB2.out) (by omega) _ _ _ _⟩
         | false =>
           have HC := Lib.hid hC
           clear hC
           go_enter Tryz.func92, Tryz.ntmps92
           go_wp2_with fail
           rw [← HW.out]
           refine (HR.out _).mono ?_
           rintro e w1 ⟨rfl, hb1⟩
           have h1R := (hb1.below.block (w.heap.size + 1) (by have := HWS.out; omega)).trans HRR.out
           have h1B := (hb1.below.block w.heap.size (by have := HWS.out; omega)).trans HBB.out
           have hb1' := bel_then HBW.out hb1
           obtain ⟨⟨b0, b1, b2, b3⟩, _⟩ := four_cells h1B
           obtain ⟨⟨c0, c1, c2, c3⟩, f0, f1, f2, f3⟩ := four_cells h1R
           have H1R := Lib.hid h1R
           have H1B := Lib.hid h1B
           have HB1 := Lib.hid hb1'
           clear h1R h1B hb1' hb1
           go_wp2_with fail
           go_quiet ((go_at_call 106; exact quiet_ret (canon_any _ _)))
           go_wp2_with fail
           refine (PV.out _).mono ?_
           rintro e w2 ⟨rfl, rfl⟩
           go_wp2_with fail
           have h2R : (w1.drewN nq).heap[w.heap.size + 1]? = _ := H1R.out
           exact bodyPost_ret (results_cell Tryz.results92 rfl (load_span (set4 h2R _ _ _ _))) rfl ⟨by rw [HC.out]; rfl, bel_set4 (bel_drewN HB1.out _) (by omega) _ _ _ _⟩
       | false =>
         simp only [Bool.false_eq_true, if_false] at hcmp hC
         cases F with
         | true =>
           have HC : Hid (C = noneS) := by show _ = _; rw [hC]; rfl
           clear hC
           go_enter Tryz.func92, Tryz.ntmps92
           go_wp2_with fail
           rw [← HW.out]
           refine (HR.out _).mono ?_
           rintro e w1 ⟨rfl, hb1⟩
           have h1R := (hb1.below.block (w.heap.size + 1) (by have := HWS.out; omega)).trans HRR.out
           have h1B := (hb1.below.block w.heap.size (by have := HWS.out; omega)).trans HBB.out
           have hb1' := bel_then HBW.out hb1
           obtain ⟨⟨b0, b1, b2, b3⟩, _⟩ := four_cells h1B
           obtain ⟨⟨c0, c1, c2, c3⟩, f0, f1, f2, f3⟩ := four_cells h1R
           have H1R := Lib.hid h1R
           have H1B := Lib.hid h1B
           have HB1 := Lib.hid hb1'
           clear h1R h1B hb1' hb1
           go_wp2_with fail
           go_quiet ((go_at_call 106; exact quiet_ret (canon_any _ _)))
           go_wp2_with fail
           refine (noneB_any _).mono ?_
           rintro e w2 ⟨rfl, hb2⟩
           have h2R := (hb2.below.block (w.heap.size + 1) (lt_of_block H1R.out)).trans H1R.out
           have H2R := Lib.hid h2R
           have HB2 := Lib.hid hb2
           obtain ⟨⟨d0, d1, d2, d3⟩, g0, g1, g2, g3⟩ := four_cells h2R
           clear h2R hb2
           go_wp2_with fail
           exact bodyPost_ret (results_cell Tryz.results92 rfl (load_span (set4 H2R.out _ _ _ _))) rfl ⟨by rw [HC.out]; rfl, bel_set4 (bel_then (bel_drewN HB1.out nq) HB2.out) (by omega) _ _ _ _⟩
         | false =>
           have HC := Lib.hid hC
           clear hC
           go_enter Tryz.func92, Tryz.ntmps92
           go_wp2_with fail
           rw [← HW.out]
           refine (HR.out _).mono ?_
           rintro e w1 ⟨rfl, hb1⟩
           have h1R := (hb1.below.block (w.heap.size + 1) (by have := HWS.out; omega)).trans HRR.out
           have h1B := (hb1.below.block w.heap.size (by have := HWS.out; omega)).trans HBB.out
           have hb1' := bel_then HBW.out hb1
           obtain ⟨⟨b0, b1, b2, b3⟩, _⟩ := four_cells h1B
           obtain ⟨⟨c0, c1, c2, c3⟩, f0, f1, f2, f3⟩ := four_cells h1R
           have H1R := Lib.hid h1R
           have H1B := Lib.hid h1B
           have HB1 := Lib.hid hb1'
           clear h1R h1B hb1' hb1
           go_wp2_with fail
           go_quiet ((go_at_call 106; exact quiet_ret (canon_any _ _)))
           go_wp2_with fail
           have h2R : (w1.drewN nq).heap[w.heap.size + 1]? = _ := H1R.out
           exact bodyPost_ret (results_cell Tryz.results92 rfl (load_span (set4 h2R _ _ _ _))) rfl ⟨by rw [HC.out]; rfl, bel_set4 (bel_drewN HB1.out _) (by omega) _ _ _ _⟩
   · rw [hfe] at heq
     clear hfe
     simp only [Bool.false_eq_true, if_false] at hcmp hC
     cases F with
     | true =>
       have HC : Hid (C = noneS) := by show _ = _; rw [hC]; rfl
       clear hC
       go_enter Tryz.func92, Tryz.ntmps92
       go_wp2_with fail
       rw [← HW.out]
       refine (HR.out _).mono ?_
       rintro e w1 ⟨rfl, hb1⟩
       have h1R := (hb1.below.block (w.heap.size + 1) (by have := HWS.out; omega)).trans HRR.out
       have h1B := (hb1.below.block w.heap.size (by have := HWS.out; omega)).trans HBB.out
       have hb1' := bel_then HBW.out hb1
       obtain ⟨⟨b0, b1, b2, b3⟩, _⟩ := four_cells h1B
       obtain ⟨⟨c0, c1, c2, c3⟩, f0, f1, f2, f3⟩ := four_cells h1R
       have H1R := Lib.hid h1R
       have H1B := Lib.hid h1B
       have HB1 := Lib.hid hb1'
       clear h1R h1B hb1' hb1
       go_wp2_with fail
       go_quiet ((go_at_call 106; exact quiet_ret (canon_any _ _)))
       go_wp2_with fail
       refine (noneB_any _).mono ?_
       rintro e w2 ⟨rfl, hb2⟩
       have h2R := (hb2.below.block (w.heap.size + 1) (lt_of_block H1R.out)).trans H1R.out
       have H2R := Lib.hid h2R
       have HB2 := Lib.hid hb2
       obtain ⟨⟨d0, d1, d2, d3⟩, g0, g1, g2, g3⟩ := four_cells h2R
       clear h2R hb2
       go_wp2_with fail
       exact bodyPost_ret (results_cell Tryz.results92 rfl (load_span (set4 H2R.out _ _ _ _))) rfl ⟨by rw [HC.out]; rfl, bel_set4 (bel_then (bel_drewN HB1.out nq) HB2.out) (by omega) _ _ _ _⟩
     | false =>
       have HC := Lib.hid hC
       clear hC
       go_enter Tryz.func92, Tryz.ntmps92
       go_wp2_with fail
       rw [← HW.out]
       refine (HR.out _).mono ?_
       rintro e w1 ⟨rfl, hb1⟩
       have h1R := (hb1.below.block (w.heap.size + 1) (by have := HWS.out; omega)).trans HRR.out
       have h1B := (hb1.below.block w.heap.size (by have := HWS.out; omega)).trans HBB.out
       have hb1' := bel_then HBW.out hb1
       obtain ⟨⟨b0, b1, b2, b3⟩, _⟩ := four_cells h1B
       obtain ⟨⟨c0, c1, c2, c3⟩, f0, f1, f2, f3⟩ := four_cells h1R
       have H1R := Lib.hid h1R
       have H1B := Lib.hid h1B
       have HB1 := Lib.hid hb1'
       clear h1R h1B hb1' hb1
       go_wp2_with fail
       go_quiet ((go_at_call 106; exact quiet_ret (canon_any _ _)))
       go_wp2_with fail
       have h2R : (w1.drewN nq).heap[w.heap.size + 1]? = _ := H1R.out
       exact bodyPost_ret (results_cell Tryz.results92 rfl (load_span (set4 h2R _ _ _ _))) rfl ⟨by rw [HC.out]; rfl, bel_set4 (bel_drewN HB1.out _) (by omega) _ _ _ _⟩
theorem canonS_any (s : Spn) (hs : s.ok) (w : World) : Calls Tryz.prog 92 #[s.agg] w (RetBox w (canonS s).agg) := (canonB_any s hs w).mono fun _ _ h => h.box
end Go.Proofs.YtpknmfmpiachkaaGreat
namespace Go.Proofs.YtpknmfmpiachkaaGreat
open Go.RowKit
theorem far4 {w : World} {B B' : Nat} {o : Option Obj} (h : w.heap[B]? = o) (hn : B ≠ B') (v0 v1 v2 v3 : Value) :
 ((((w.setCell ⟨B', 0, none⟩ v0).setCell ⟨B', 1, none⟩ v1).setCell ⟨B', 2, none⟩ v2).setCell ⟨B', 3, none⟩ v3).heap[B]? = o :=
 set_far (set_far (set_far (set_far h hn) hn) hn) hn
def emptyS (s : Spn) : Bool := (canonS s).lop
def hasS (s : Spn) (key : Nat) : Bool := !(canonS s).lop && Flo.fle (canonS s).lo key && Flo.fle key (canonS s).hi
def cmpO (a b : Int) : Int := if a ≠ 0 then a else b
def cmpS (a b : Spn) : Int :=
 if (canonS a).lop || (canonS b).lop then (if (canonS b).lop = false then -1 else if (canonS a).lop = false then 1 else 0)
 else cmpO (Flo.cmp (canonS a).lo (canonS b).lo) (Flo.cmp (canonS a).hi (canonS b).hi)
set_option maxRecDepth 100000 in
set_option maxHeartbeats 1600000 in
theorem emptyS_any (s : Spn) (hs : s.ok) (w : World) : Calls Tryz.prog 50 #[s.agg] w (RetBox w (.bool (emptyS s))) := by
 have hc := canonS_any s hs
 unfold emptyS
 unfold Spn.agg at hc ⊢
 obtain ⟨C, hC⟩ : ∃ C, C = canonS s := ⟨_, rfl⟩
 rw [← hC] at hc ⊢
 obtain ⟨lo, hi, lop, hop⟩ := s
 obtain ⟨clo, chi, clop, chop⟩ := C
 simp only at hc ⊢
 have hfd : ∀ w : World, (Instr.field 101 (.agg #[.float .f64 clo, .float .f64 chi, .bool clop, .bool chop]) 2).run Tryz.prog w = .ok (.bool clop) w := fun _ => by kernel_rfl
 have HC := Lib.hid hc
 clear hc hC hs
 go_enter Tryz.func50, Tryz.ntmps50
 go_wp2_with fail
 refine (HC.out _).mono ?_
 rintro e w1 ⟨rfl, hb1⟩
 have HB := Lib.hid (below_then (below_alloc (Below.refl _ _) _) hb1)
 clear hb1
 go_wp2_with fail
 go_ret
 exact ⟨rfl, HB.out⟩
set_option maxRecDepth 100000 in
set_option maxHeartbeats 1600000 in
theorem hasS_any (s : Spn) (key : Nat) (hs : s.ok) (hk : key < 18446744073709551616) (w : World) : Calls Tryz.prog 116 #[s.agg, .float .f64 key] w (RetBox w (.bool (hasS s key))) := by
 have hc := canonS_any s hs
 have hok := canonS_ok s hs
 obtain ⟨R, hR⟩ : ∃ R, R = hasS s key := ⟨_, rfl⟩
 rw [← hR]
 unfold hasS at hR
 unfold Spn.agg at hc ⊢
 obtain ⟨C, hC⟩ : ∃ C, C = canonS s := ⟨_, rfl⟩
 rw [← hC] at hc hok hR
 obtain ⟨lo, hi, lop, hop⟩ := s
 obtain ⟨clo, chi, clop, chop⟩ := C
 simp only at hc hR ⊢
 have h1 := Flo.run_ge key clo hk hok.1
 have h2 := Flo.run_le key chi hk hok.2
 have HC := Lib.hid hc
 clear hc hC hs hok
 have key : (clop = true ∧ R = false) ∨ (clop = false ∧ Flo.fle clo key = false ∧ R = false) ∨ (clop = false ∧ Flo.fle clo key = true ∧ R = Flo.fle key chi) := by
  rw [hR]
  cases clop <;> cases Flo.fle clo key <;> simp
 clear hR
 obtain ⟨W, hW⟩ : ∃ W, W = w.alloc (.cells #[.float .f64 lo, .float .f64 hi, .bool lop, .bool hop] 101) := ⟨_, rfl⟩
 have hB : W.heap[w.heap.size]? = some (.cells #[.float .f64 lo, .float .f64 hi, .bool lop, .bool hop] 101 (0, 0)) := hW ▸ heap_alloc_new w _
 have hbw : Below w.heap.size w W := hW ▸ below_alloc (Below.refl _ _) _
 have HB := Lib.hid hB
 have HW := Lib.hid hW
 have HBW := Lib.hid hbw
 clear hB hW hbw
 rcases key with ⟨rfl, rfl⟩ | ⟨rfl, h3, rfl⟩ | ⟨rfl, h3, hR⟩
 · clear h1 h2
   go_enter Tryz.func116, Tryz.ntmps116
   go_wp2_with fail
   rw [← HW.out]
   refine (HC.out _).mono ?_
   rintro e w1 ⟨rfl, hb1⟩
   have h1B := (hb1.block w.heap.size (lt_of_block HB.out)).trans HB.out
   obtain ⟨⟨b0, b1, b2, b3⟩, f0, f1, f2, f3⟩ := four_cells h1B
   have HB1 := Lib.hid (below_then HBW.out hb1)
   clear hb1 h1B
   go_wp2_with fail
   go_ret
   exact ⟨rfl, below_set4 HB1.out (by omega) _ _ _ _⟩
 · rw [h3] at h1
   clear h2 h3
   go_enter Tryz.func116, Tryz.ntmps116
   go_wp2_with fail
   rw [← HW.out]
   refine (HC.out _).mono ?_
   rintro e w1 ⟨rfl, hb1⟩
   have h1B := (hb1.block w.heap.size (lt_of_block HB.out)).trans HB.out
   obtain ⟨⟨b0, b1, b2, b3⟩, f0, f1, f2, f3⟩ := four_cells h1B
   have HB1 := Lib.hid (below_then HBW.out hb1)
   clear hb1 h1B
   go_wp2_with fail
   go_ret
   exact ⟨rfl, below_set4 HB1.out (by omega) _ _ _ _⟩
 · rw [h3] at h1
   have H2 := Lib.hid (h2.trans hR.symm)
   clear h2 h3 hR
   go_enter Tryz.func116, Tryz.ntmps116
   go_wp2_with fail
   rw [← HW.out]
   refine (HC.out _).mono ?_
   rintro e w1 ⟨rfl, hb1⟩
   have h1B := (hb1.block w.heap.size (lt_of_block HB.out)).trans HB.out
   obtain ⟨⟨b0, b1, b2, b3⟩, f0, f1, f2, f3⟩ := four_cells h1B
   have HB1 := Lib.hid (below_then HBW.out hb1)
   clear hb1 h1B
   go_wp2_with fail
   go_ret
   exact ⟨by rw [← H2.out]; rfl, below_set4 HB1.out (by omega) _ _ _ _⟩
end Go.Proofs.YtpknmfmpiachkaaGreat
namespace Go.Proofs.YtpknmfmpiachkaaGreat
open Go.RowKit
set_option maxHeartbeats 800000 in
theorem or2_any (x y : Int) (g cap : Nat) (w : World) (h0 : w.cell? ⟨g, 0, none⟩ = some (.int .i64 x)) (h1 : w.cell? ⟨g, 1, none⟩ = some (.int .i64 y)) :
 Calls Tryz.prog 134 #[.slice (some ⟨g, 0, none⟩) 2 cap] w (RetEq w (.int .i64 (cmpO x y))) := by
 obtain ⟨R, hR⟩ : ∃ R, R = cmpO x y := ⟨_, rfl⟩
 rw [← hR]
 unfold cmpO at hR
 by_cases hx : x = 0
 · rw [if_neg (by simpa using hx)] at hR
   subst hR
   have e1 : (x != 0) = false := by simp [hx]
   clear hx
   by_cases hy : R = 0
   · have e2 : (R != 0) = false := by simp [hy]
     have HY := Lib.hid hy
     clear hy
     go_enter Tryz.func134, Tryz.ntmps134
     go_wp2_with fail
     refine wp_loop_rounds 3 ?_
     rw [rounds_succ]
     go_wp2_with fail
     rw [rounds_succ]
     go_wp2_with fail
     rw [rounds_succ]
     go_wp2_with fail
     go_ret
     exact ⟨by rw [HY.out]; rfl, rfl⟩
   · have e2 : (R != 0) = true := by simp [hy]
     clear hy
     go_enter Tryz.func134, Tryz.ntmps134
     go_wp2_with fail
     refine wp_loop_rounds 3 ?_
     rw [rounds_succ]
     go_wp2_with fail
     rw [rounds_succ]
     go_wp2_with fail
     go_ret
     exact ⟨rfl, rfl⟩
 · rw [if_pos hx] at hR
   subst hR
   have e1 : (R != 0) = true := by simp [hx]
   clear hx
   go_enter Tryz.func134, Tryz.ntmps134
   go_wp2_with fail
   refine wp_loop_rounds 3 ?_
   rw [rounds_succ]
   go_wp2_with fail
   go_ret
   exact ⟨rfl, rfl⟩
theorem or2_new (x y : Int) (w : World) : Calls Tryz.prog 134 #[.slice (some ⟨w.heap.size, 0, none⟩) 2 2] (w.alloc (.cells #[.int .i64 x, .int .i64 y] 3)).drew (RetEq (w.alloc (.cells #[.int .i64 x, .int .i64 y] 3)).drew (.int .i64 (cmpO x y))) :=
 or2_any x y w.heap.size 2 _ (two_cells (w := (w.alloc (.cells #[.int .i64 x, .int .i64 y] 3)).drew) (heap_alloc_new w _)).1 (two_cells (w := (w.alloc (.cells #[.int .i64 x, .int .i64 y] 3)).drew) (heap_alloc_new w _)).2.1
set_option maxRecDepth 100000 in
set_option maxHeartbeats 3200000 in
theorem cmpB_any (a b : Spn) (ha : a.ok) (hb : b.ok) (w : World) : Calls Tryz.prog 98 #[a.agg, b.agg] w (RetBel w (.int .i64 (cmpS a b))) := by
 obtain ⟨R, hR⟩ : ∃ R, R = cmpS a b := ⟨_, rfl⟩
 rw [← hR]
 unfold cmpS at hR
 have ca := canonB_any a ha
 have cb := canonB_any b hb
 have oa := canonS_ok a ha
 have ob := canonS_ok b hb
 obtain ⟨A, hA⟩ : ∃ A, A = canonS a := ⟨_, rfl⟩
 obtain ⟨B, hB⟩ : ∃ B, B = canonS b := ⟨_, rfl⟩
 rw [← hA] at hR ca oa
 rw [← hB] at hR cb ob
 clear hA hB
 unfold Spn.agg at ca cb ⊢
 obtain ⟨alo, ahi, alop, ahop⟩ := a
 obtain ⟨blo, bhi, blop, bhop⟩ := b
 obtain ⟨Alo, Ahi, Alop, Ahop⟩ := A
 obtain ⟨Blo, Bhi, Blop, Bhop⟩ := B
 simp only at hR ca cb ⊢
 have CA := Lib.hid ca
 have CB := Lib.hid cb
 have HR := Lib.hid hR
 clear ca cb hR
 obtain ⟨W, hW⟩ : ∃ W, W = (w.alloc (.cells #[.float .f64 alo, .float .f64 ahi, .bool alop, .bool ahop] 101)).alloc (.cells #[.float .f64 blo, .float .f64 bhi, .bool blop, .bool bhop] 101) := ⟨_, rfl⟩
 have hWs : W.heap.size = w.heap.size + 2 := by rw [hW, World.size_alloc, World.size_alloc]
 have hA : W.heap[w.heap.size]? = some (.cells #[.float .f64 alo, .float .f64 ahi, .bool alop, .bool ahop] 101 (0, 0)) := hW ▸ alloc_far (heap_alloc_new w _) (by rw [World.size_alloc]; omega)
 have hB : W.heap[w.heap.size + 1]? = some (.cells #[.float .f64 blo, .float .f64 bhi, .bool blop, .bool bhop] 101 (0, 0)) := hW ▸ alloc_new1 _ _ _
 have hbw : Bel w W := hW ▸ bel_alloc (bel_alloc (Bel.refl _) _) _
 obtain ⟨⟨a0, a1, a2, a3⟩, f0, f1, f2, f3⟩ := four_cells hA
 obtain ⟨⟨b0, b1, b2, b3⟩, g0, g1, g2, g3⟩ := four_cells hB
 have HW := Lib.hid hW
 have HA := Lib.hid hA
 have HB := Lib.hid hB
 have HBW := Lib.hid hbw
 have hWl : w.heap.size + 2 ≤ W.heap.size := by omega
 clear hW hA hB hbw hWs
 go_enter Tryz.func98, Tryz.ntmps98
 go_wp2_with fail
 rw [← HW.out]
 go_cut [] from 5 to 8 (fun wx => Hid (wx.heap[w.heap.size]? = some (.cells #[.float .f64 Alo, .float .f64 Ahi, .bool Alop, .bool Ahop] 101 (0, 0))) ∧ Hid (wx.heap[w.heap.size + 1]? = some (.cells #[.float .f64 Blo, .float .f64 Bhi, .bool Blop, .bool Bhop] 101 (0, 0))) ∧ Hid (Bel w wx))
 case first =>
  go_region_with (first
   | (go_at_call_of 92 (Value.float FloatKind.f64 alo); refine (CA.out _).mono ?_; rintro e w1 ⟨rfl, hb1⟩
      have h1A := (hb1.below.block w.heap.size (by simp; omega)).trans HA.out
      have h1B := (hb1.below.block (w.heap.size + 1) (by simp; omega)).trans HB.out
      obtain ⟨⟨c0, c1, c2, c3⟩, i0, i1, i2, i3⟩ := four_cells h1A
      obtain ⟨⟨d0, d1, d2, d3⟩, j0, j1, j2, j3⟩ := four_cells h1B)
   | (go_at_call_of 92 (Value.float FloatKind.f64 blo); refine (CB.out _).mono ?_; rintro e w2 ⟨rfl, hb2⟩
      have h2A := (hb2.below.block w.heap.size (lt_of_block h1A)).trans h1A
      have h2B := (hb2.below.block (w.heap.size + 1) (lt_of_block h1B)).trans h1B
      obtain ⟨⟨k0, k1, k2, k3⟩, m0, m1, m2, m3⟩ := four_cells h2A
      obtain ⟨⟨l0, l1, l2, l3⟩, n0, n1, n2, n3⟩ := four_cells h2B))
  all_goals
   have hb := bel_then (bel_then HBW.out (bel_then (Bel.refl _).drew hb1)) hb2
   go_wp2_with fail
   go_meet
   exact ⟨far4 (set4 h2A _ _ _ _) (by omega) _ _ _ _, set4 (far4 h2B (by omega) _ _ _ _) _ _ _ _, bel_set4 (bel_set4 hb (by omega) _ _ _ _) (by omega) _ _ _ _⟩
 case rest =>
  obtain ⟨KA, KB, KW⟩ := hcut
  clear a0 a1 a2 a3 b0 b1 b2 b3 f0 f1 f2 f3 g0 g1 g2 g3 HA HB HW HBW CA CB
  have kA := KA.out
  have kB := KB.out
  obtain ⟨⟨a0, a1, a2, a3⟩, f0, f1, f2, f3⟩ := four_cells kA
  obtain ⟨⟨b0, b1, b2, b3⟩, g0, g1, g2, g3⟩ := four_cells kB
  clear kA kB
  cases Alop with
  | true =>
    cases Blop with
    | true =>
      go_wp2_with fail
      go_ret
      exact ⟨ret_int HR.out.symm, KW.out⟩
    | false =>
      go_wp2_with fail
      go_ret
      exact ⟨ret_int HR.out.symm, KW.out⟩
  | false =>
    cases Blop with
    | true =>
      go_wp2_with fail
      go_ret
      exact ⟨ret_int HR.out.symm, KW.out⟩
    | false =>
      have c1 := fun w => cmp_any Alo Blo w oa.1 ob.1
      have c2 := fun w => cmp_any Ahi Bhi w oa.2 ob.2
      have C1 := Lib.hid c1
      have C2 := Lib.hid c2
      clear c1 c2
      go_wp2_with fail
      go_region_held3 (fun w' => w'.cell? ⟨w.heap.size, 0, none⟩ = some (.float .f64 Alo) ∧ w'.cell? ⟨w.heap.size + 1, 0, none⟩ = some (.float .f64 Blo) ∧ w'.cell? ⟨w.heap.size, 1, none⟩ = some (.float .f64 Ahi) ∧ w'.cell? ⟨w.heap.size + 1, 1, none⟩ = some (.float .f64 Bhi)) (first | exact ⟨a0, b0, a1, b1⟩ | go_keep) (first
       | (go_at_call_of 130 (Value.float FloatKind.f64 Alo); refine (C1.out _).mono ?_; rintro e w1 ⟨rfl, rfl⟩)
       | (go_at_call_of 130 (Value.float FloatKind.f64 Ahi); refine (C2.out _).mono ?_; rintro e w1 ⟨rfl, rfl⟩)
       | (go_at_call 134; refine (or2_new _ _ _).mono ?_; rintro e w1 ⟨rfl, rfl⟩))
      all_goals go_wp2_with fail
      all_goals go_ret
      all_goals exact ⟨ret_int HR.out.symm, (bel_alloc KW.out _).drew⟩
end Go.Proofs.YtpknmfmpiachkaaGreat
