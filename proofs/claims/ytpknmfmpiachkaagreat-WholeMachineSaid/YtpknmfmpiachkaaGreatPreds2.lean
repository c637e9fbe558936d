/- A table of spans: its search. -/
import Derived.Test.YtpknmfmpiachkaaGreatVers5
import Derived.Test.YtpknmfmpiachkaaGreatInsP
namespace Go.Proofs.YtpknmfmpiachkaaGreat
open Go.RowKit
structure PI where
 s : Spn
 num : Int
def PI.cells (v : PI) : List Value := [.float .f64 v.s.lo, .float .f64 v.s.hi, .bool v.s.lop, .bool v.s.hop, .int .i64 v.num]
theorem dropP (vs : List PI) : ∀ i, (vs.flatMap PI.cells).drop (i * 5) = (vs.drop i).flatMap PI.cells := by
 induction vs with
 | nil => intro i; simp
 | cons x r ih =>
   intro i
   cases i with
   | zero => simp
   | succ i =>
     rw [List.drop_succ_cons, ← ih i, List.flatMap_cons, show (i + 1) * 5 = 5 + i * 5 by omega, ← List.drop_drop]
     congr 1
theorem pi_at {w : World} {a : Option Addr} {n : Nat} {vs : List PI} (hr : RowN w a 5 n (vs.flatMap PI.cells)) (hs : vs.length = n) (k : Nat) (hk : k < n) (v : PI) (he : vs[k]? = some v) :
 ∃ b off, a = some ⟨b, off, none⟩ ∧ w.cell? ⟨b, off + k * 5, none⟩ = some (.float .f64 v.s.lo) ∧ w.cell? ⟨b, off + k * 5 + 1, none⟩ = some (.float .f64 v.s.hi) ∧ w.cell? ⟨b, off + k * 5 + 2, none⟩ = some (.bool v.s.lop) ∧ w.cell? ⟨b, off + k * 5 + 3, none⟩ = some (.bool v.s.hop) ∧ w.cell? ⟨b, off + k * 5 + 4, none⟩ = some (.int .i64 v.num) := by
 obtain ⟨b, off, ha, hc⟩ := hr.2 (by omega)
 have hcell : ∀ i u, i < 5 → v.cells[i]? = some u → (vs.flatMap PI.cells)[k * 5 + i]? = some u := fun i u hi hu => by
  have h1 : ((vs.flatMap PI.cells).drop (k * 5))[i]? = some u := by
   rw [dropP, List.drop_eq_getElem_cons (show k < vs.length by omega), List.flatMap_cons, List.getElem?_append_left (by simp [PI.cells]; omega)]
   have : vs[k]'(by omega) = v := (List.getElem?_eq_some_iff.1 he).2
   rw [this]
   exact hu
  rwa [List.getElem?_drop] at h1
 exact ⟨b, off, ha, hc _ _ (hcell 0 _ (by omega) rfl), by rw [Nat.add_assoc]; exact hc _ _ (hcell 1 _ (by omega) rfl), by rw [Nat.add_assoc]; exact hc _ _ (hcell 2 _ (by omega) rfl), by rw [Nat.add_assoc]; exact hc _ _ (hcell 3 _ (by omega) rfl), by rw [Nat.add_assoc]; exact hc _ _ (hcell 4 _ (by omega) rfl)⟩
set_option maxRecDepth 100000 in
set_option maxHeartbeats 1600000 in
theorem putFn_any (v : PI) (hv : v.s.ok) (s : Spn) (hs : s.ok) (w : World) : Calls Tryz.prog 108 #[.agg #[.float .f64 v.s.lo, .float .f64 v.s.hi, .bool v.s.lop, .bool v.s.hop, .int .i64 v.num], .agg #[.float .f64 s.lo, .float .f64 s.hi, .bool s.lop, .bool s.hop]] w (RetBox w (.int .i64 (cmpS v.s s))) := by
 have h := fun w => (cmpB_any v.s s hv hs w).mono fun _ _ h => h.box
 unfold Spn.agg at h
 obtain ⟨R, hR⟩ : ∃ R, R = cmpS v.s s := ⟨_, rfl⟩
 rw [← hR] at h ⊢
 obtain ⟨⟨alo, ahi, alop, ahop⟩, num⟩ := v
 obtain ⟨blo, bhi, blop, bhop⟩ := s
 simp only at h ⊢
 have H := Lib.hid h
 clear h hv hs hR
 go_enter Tryz.func108, Tryz.ntmps108
 go_wp2_with fail
 refine (H.out _).mono ?_
 rintro e w' ⟨rfl, hb⟩
 have HB := Lib.hid (below_then (below_alloc (below_alloc (Below.refl _ _) _) _) hb)
 clear hb
 go_wp2_with fail
 go_ret
 exact ⟨rfl, HB.out⟩
set_option maxRecDepth 100000 in
set_option maxHeartbeats 12800000 in
theorem psearch_any (s : Spn) (hs : s.ok) (vs : List PI) (hvs : ∀ v ∈ vs, v.s.ok) (p : Nat) (hp : Turns (fun v : PI => cmpS v.s s) vs p) (a : Option Addr) (n cap : Nat) (w : World) (hrow : RowN w a 5 n (vs.flatMap PI.cells)) (hl : vs.length = n) (hn : n ≤ 1000000000000) :
 Calls Tryz.prog 107 #[.slice a n cap, .agg #[.float .f64 s.lo, .float .f64 s.hi, .bool s.lop, .bool s.hop], .func (.func 108) #[] #[]] w (RetBox w (.tuple #[.int .i64 (p : Nat), .bool (foundAt (fun v : PI => cmpS v.s s) vs p)])) := by
 have hpn := hp.1
 rw [hl] at hpn
 have HP := Lib.hid hp.2
 have HROW := Lib.hid hrow
 have HL := Lib.hid hl
 have HV := Lib.hid hvs
 have HS := Lib.hid hs
 obtain ⟨F, hF⟩ : ∃ F, F = foundAt (fun v : PI => cmpS v.s s) vs p := ⟨_, rfl⟩
 rw [← hF]
 unfold foundAt at hF
 have HF := Lib.hid hF
 clear hp hrow hl hvs hF hs
 obtain ⟨W, hW⟩ : ∃ W, W = w.alloc (.cells #[.float .f64 s.lo, .float .f64 s.hi, .bool s.lop, .bool s.hop] 101) := ⟨_, rfl⟩
 have hbW : Below w.heap.size w W := hW ▸ below_alloc (Below.refl _ _) _
 have hWB : W.heap[w.heap.size]? = some (.cells #[.float .f64 s.lo, .float .f64 s.hi, .bool s.lop, .bool s.hop] 101 (0, 0)) := hW ▸ heap_alloc_new w _
 have HBW := Lib.hid hbW
 have HWB := Lib.hid hWB
 clear hbW hWB
 go_enter Tryz.func107, Tryz.ntmps107
 go_upto_region 1 with fail
 rw [← hW]
 clear hW
 go_wp2_with fail
 go_loopw [9, 10, 11] (fun s9 s10 _ wr => ∃ lo hi : Nat, s9 = .int .i64 lo ∧ s10 = .int .i64 hi ∧ lo ≤ p ∧ p ≤ hi ∧ hi ≤ n ∧ Hid (Below w.heap.size w wr) ∧ Hid (wr.heap[w.heap.size]? = some (.cells #[.float .f64 s.lo, .float .f64 s.hi, .bool s.lop, .bool s.hop] 101 (0, 0)))) (fun s9 s10 _ _ => (intOf s10).toNat - (intOf s9).toNat)
 case atStart => exact ⟨0, n, rfl, rfl, Nat.zero_le _, hpn, Nat.le_refl _, HBW.out, HWB.out⟩
 case round =>
  obtain ⟨lo, hi, rfl, rfl, hlp, hph, hin, HB, HBB⟩ := hrel
  by_cases hlt : lo < hi
  · obtain ⟨v, hv⟩ : ∃ v, vs[(lo + hi) / 2]? = some v := ⟨_, List.getElem?_eq_getElem (by rw [HL.out]; omega)⟩
    obtain ⟨b, off, rfl, e0, e1, e2, e3, e4⟩ := pi_at (HROW.out.below HB.out) HL.out ((lo + hi) / 2) (by omega) v hv
    obtain ⟨⟨d0, d1, d2, d3⟩, _⟩ := four_cells HBB.out
    have hc := putFn_any v (HV.out v (List.mem_of_getElem? hv)) s HS.out
    have ht := HP.out _ v hv
    obtain ⟨c, hcc⟩ : ∃ c, c = cmpS v.s s := ⟨_, rfl⟩
    rw [← hcc] at hc ht
    have hkeep : ∀ Z : World, Below wr.heap.size wr Z → (fun w' : World => w'.cell? ⟨b, off + (lo + hi) / 2 * 5, none⟩ = some (.float .f64 v.s.lo) ∧ w'.cell? ⟨b, off + (lo + hi) / 2 * 5 + 1, none⟩ = some (.float .f64 v.s.hi) ∧ w'.cell? ⟨b, off + (lo + hi) / 2 * 5 + 2, none⟩ = some (.bool v.s.lop) ∧ w'.cell? ⟨b, off + (lo + hi) / 2 * 5 + 3, none⟩ = some (.bool v.s.hop) ∧ w'.cell? ⟨b, off + (lo + hi) / 2 * 5 + 4, none⟩ = some (.int .i64 v.num) ∧ w'.cell? ⟨w.heap.size, 0, none⟩ = some (.float .f64 s.lo) ∧ w'.cell? ⟨w.heap.size, 1, none⟩ = some (.float .f64 s.hi) ∧ w'.cell? ⟨w.heap.size, 2, none⟩ = some (.bool s.lop) ∧ w'.cell? ⟨w.heap.size, 3, none⟩ = some (.bool s.hop)) Z := fun Z hZ => by
     refine ⟨?_, ?_, ?_, ?_, ?_, ?_, ?_, ?_, ?_⟩
     · exact (below_cell hZ _ (by rw [e0]; rfl)).trans e0
     · exact (below_cell hZ _ (by rw [e1]; rfl)).trans e1
     · exact (below_cell hZ _ (by rw [e2]; rfl)).trans e2
     · exact (below_cell hZ _ (by rw [e3]; rfl)).trans e3
     · exact (below_cell hZ _ (by rw [e4]; rfl)).trans e4
     · exact (below_cell hZ _ (by rw [d0]; rfl)).trans d0
     · exact (below_cell hZ _ (by rw [d1]; rfl)).trans d1
     · exact (below_cell hZ _ (by rw [d2]; rfl)).trans d2
     · exact (below_cell hZ _ (by rw [d3]; rfl)).trans d3
    have HKEEP := Lib.hid hkeep
    have HC := Lib.hid hc
    have HT := Lib.hid ht
    clear hv hc hcc ht hkeep e0 e1 e2 e3 e4 d0 d1 d2 d3
    have hm0 : (0 : Int) ≤ ((lo : Int) + (hi : Int)) / 2 := by omega
    have hmn : ((lo : Int) + (hi : Int)) / 2 < (n : Int) := by omega
    have hmt : (((lo : Int) + (hi : Int)) / 2).toNat = (lo + hi) / 2 := by omega
    by_cases hyx : c < 0
    · have hq : (lo + hi) / 2 < p := HT.out.1 hyx
      go_upto_region 5 with fail
      refine wp_region_noPanic ?_
      refine wp_region_held_drew (S := (fun w' => w'.cell? ⟨b, off + (lo + hi) / 2 * 5, none⟩ = some (.float .f64 v.s.lo) ∧ w'.cell? ⟨b, off + (lo + hi) / 2 * 5 + 1, none⟩ = some (.float .f64 v.s.hi) ∧ w'.cell? ⟨b, off + (lo + hi) / 2 * 5 + 2, none⟩ = some (.bool v.s.lop) ∧ w'.cell? ⟨b, off + (lo + hi) / 2 * 5 + 3, none⟩ = some (.bool v.s.hop) ∧ w'.cell? ⟨b, off + (lo + hi) / 2 * 5 + 4, none⟩ = some (.int .i64 v.num) ∧ w'.cell? ⟨w.heap.size, 0, none⟩ = some (.float .f64 s.lo) ∧ w'.cell? ⟨w.heap.size, 1, none⟩ = some (.float .f64 s.hi) ∧ w'.cell? ⟨w.heap.size, 2, none⟩ = some (.bool s.lop) ∧ w'.cell? ⟨w.heap.size, 3, none⟩ = some (.bool s.hop))) (by kernel_rfl) ?_ (fun hHeld0 => ?_)
      · refine HKEEP.out _ ?_; first | exact (Below.refl _ _).drew | exact below_then (Below.refl _ _).drew hb1
      refine wu 0 rfl ?_
      refine wu 1 rfl ?_
      refine wu 2 rfl ?_
      refine wu 3 rfl ?_
      refine wu 4 rfl ?_
      refine wu 5 rfl ?_
      refine wy 6 rfl fun K hK => ?_
      go_simp
      refine (HC.out _).mono ?_
      rintro e w1 ⟨rfl, hb1⟩
      go_wp2_with fail
      refine hK.out _ _ ?_ (fun hHeld1 => ?_)
      · refine HKEEP.out _ ?_; first | exact (Below.refl _ _).drew | exact below_then (Below.refl _ _).drew hb1
      clear hK K hHeld0
      try simp only [Act.put, List.setIfInBounds_toArray, List.set]
      refine wu 7 rfl ?_
      refine wpAnyH_done (by kernel_rfl) ?_ _
      refine NoPanic.normal ?_
      have HB1 := Lib.hid (below_then HB.out.drew hb1)
      have HBB1 := Lib.hid ((hb1.block w.heap.size (lt_of_block HBB.out)).trans HBB.out)
      clear hb1
      go_wp2_with fail
      go_roundw
      case rel => exact ⟨(lo + hi) / 2 + 1, hi, by rw [show ((lo : Int) + (hi : Int)) / 2 + 1 = (((lo + hi) / 2 + 1 : Nat) : Int) by omega], rfl, by omega, hph, hin, HB1.out, HBB1.out⟩
      case measure => simp [intOf]; omega
    · have hq : ¬ (lo + hi) / 2 < p := fun h => hyx (HT.out.2 h)
      go_upto_region 5 with fail
      refine wp_region_noPanic ?_
      refine wp_region_held_drew (S := (fun w' => w'.cell? ⟨b, off + (lo + hi) / 2 * 5, none⟩ = some (.float .f64 v.s.lo) ∧ w'.cell? ⟨b, off + (lo + hi) / 2 * 5 + 1, none⟩ = some (.float .f64 v.s.hi) ∧ w'.cell? ⟨b, off + (lo + hi) / 2 * 5 + 2, none⟩ = some (.bool v.s.lop) ∧ w'.cell? ⟨b, off + (lo + hi) / 2 * 5 + 3, none⟩ = some (.bool v.s.hop) ∧ w'.cell? ⟨b, off + (lo + hi) / 2 * 5 + 4, none⟩ = some (.int .i64 v.num) ∧ w'.cell? ⟨w.heap.size, 0, none⟩ = some (.float .f64 s.lo) ∧ w'.cell? ⟨w.heap.size, 1, none⟩ = some (.float .f64 s.hi) ∧ w'.cell? ⟨w.heap.size, 2, none⟩ = some (.bool s.lop) ∧ w'.cell? ⟨w.heap.size, 3, none⟩ = some (.bool s.hop))) (by kernel_rfl) ?_ (fun hHeld0 => ?_)
      · refine HKEEP.out _ ?_; first | exact (Below.refl _ _).drew | exact below_then (Below.refl _ _).drew hb1
      refine wu 0 rfl ?_
      refine wu 1 rfl ?_
      refine wu 2 rfl ?_
      refine wu 3 rfl ?_
      refine wu 4 rfl ?_
      refine wu 5 rfl ?_
      refine wy 6 rfl fun K hK => ?_
      go_simp
      refine (HC.out _).mono ?_
      rintro e w1 ⟨rfl, hb1⟩
      go_wp2_with fail
      refine hK.out _ _ ?_ (fun hHeld1 => ?_)
      · refine HKEEP.out _ ?_; first | exact (Below.refl _ _).drew | exact below_then (Below.refl _ _).drew hb1
      clear hK K hHeld0
      try simp only [Act.put, List.setIfInBounds_toArray, List.set]
      refine wu 7 rfl ?_
      refine wpAnyH_done (by kernel_rfl) ?_ _
      refine NoPanic.normal ?_
      have HB1 := Lib.hid (below_then HB.out.drew hb1)
      have HBB1 := Lib.hid ((hb1.block w.heap.size (lt_of_block HBB.out)).trans HBB.out)
      clear hb1
      go_wp2_with fail
      go_roundw
      case rel => exact ⟨lo, (lo + hi) / 2, rfl, by rw [show ((lo : Int) + (hi : Int)) / 2 = (((lo + hi) / 2 : Nat) : Int) by omega], hlp, by omega, by omega, HB1.out, HBB1.out⟩
      case measure => simp [intOf]; omega
  · obtain rfl : lo = p := by omega
    obtain ⟨⟨d0, d1, d2, d3⟩, _⟩ := four_cells HBB.out
    by_cases hnp : lo < n
    · obtain ⟨v, hv⟩ : ∃ v, vs[lo]? = some v := ⟨_, List.getElem?_eq_getElem (by rw [HL.out]; exact hnp)⟩
      obtain ⟨b, off, rfl, e0, e1, e2, e3, e4⟩ := pi_at (HROW.out.below HB.out) HL.out lo hnp v hv
      have hc := putFn_any v (HV.out v (List.mem_of_getElem? hv)) s HS.out
      have hf := HF.out
      rw [hv] at hf
      replace hf : F = decide (cmpS v.s s = 0) := hf
      obtain ⟨c, hcc⟩ : ∃ c, c = cmpS v.s s := ⟨_, rfl⟩
      rw [← hcc] at hc hf
      have hkeep : ∀ Z : World, Below wr.heap.size wr Z → (fun w' : World => w'.cell? ⟨b, off + lo * 5, none⟩ = some (.float .f64 v.s.lo) ∧ w'.cell? ⟨b, off + lo * 5 + 1, none⟩ = some (.float .f64 v.s.hi) ∧ w'.cell? ⟨b, off + lo * 5 + 2, none⟩ = some (.bool v.s.lop) ∧ w'.cell? ⟨b, off + lo * 5 + 3, none⟩ = some (.bool v.s.hop) ∧ w'.cell? ⟨b, off + lo * 5 + 4, none⟩ = some (.int .i64 v.num) ∧ w'.cell? ⟨w.heap.size, 0, none⟩ = some (.float .f64 s.lo) ∧ w'.cell? ⟨w.heap.size, 1, none⟩ = some (.float .f64 s.hi) ∧ w'.cell? ⟨w.heap.size, 2, none⟩ = some (.bool s.lop) ∧ w'.cell? ⟨w.heap.size, 3, none⟩ = some (.bool s.hop)) Z := fun Z hZ => by
       refine ⟨?_, ?_, ?_, ?_, ?_, ?_, ?_, ?_, ?_⟩
       · exact (below_cell hZ _ (by rw [e0]; rfl)).trans e0
       · exact (below_cell hZ _ (by rw [e1]; rfl)).trans e1
       · exact (below_cell hZ _ (by rw [e2]; rfl)).trans e2
       · exact (below_cell hZ _ (by rw [e3]; rfl)).trans e3
       · exact (below_cell hZ _ (by rw [e4]; rfl)).trans e4
       · exact (below_cell hZ _ (by rw [d0]; rfl)).trans d0
       · exact (below_cell hZ _ (by rw [d1]; rfl)).trans d1
       · exact (below_cell hZ _ (by rw [d2]; rfl)).trans d2
       · exact (below_cell hZ _ (by rw [d3]; rfl)).trans d3
      have HKEEP := Lib.hid hkeep
      have HC := Lib.hid hc
      have HF2 : Hid ((c == 0) = F) := by show _ = _; rw [hf, Bool.eq_iff_iff, beq_iff_eq, decide_eq_true_eq]
      have hnat : ((lo : Int)).toNat = lo := by omega
      have h1 : (lo : Int) < (n : Int) := by omega
      have h0 : (0 : Int) ≤ (lo : Int) := by omega
      clear hv hc hcc hf hkeep e0 e1 e2 e3 e4 d0 d1 d2 d3
      go_upto_region 8 with fail
      refine wp_region_noPanic ?_
      refine wp_region_held_drew (S := (fun w' => w'.cell? ⟨b, off + lo * 5, none⟩ = some (.float .f64 v.s.lo) ∧ w'.cell? ⟨b, off + lo * 5 + 1, none⟩ = some (.float .f64 v.s.hi) ∧ w'.cell? ⟨b, off + lo * 5 + 2, none⟩ = some (.bool v.s.lop) ∧ w'.cell? ⟨b, off + lo * 5 + 3, none⟩ = some (.bool v.s.hop) ∧ w'.cell? ⟨b, off + lo * 5 + 4, none⟩ = some (.int .i64 v.num) ∧ w'.cell? ⟨w.heap.size, 0, none⟩ = some (.float .f64 s.lo) ∧ w'.cell? ⟨w.heap.size, 1, none⟩ = some (.float .f64 s.hi) ∧ w'.cell? ⟨w.heap.size, 2, none⟩ = some (.bool s.lop) ∧ w'.cell? ⟨w.heap.size, 3, none⟩ = some (.bool s.hop))) (by kernel_rfl) ?_ (fun hHeld0 => ?_)
      · refine HKEEP.out _ ?_; first | exact (Below.refl _ _).drew | exact below_then (Below.refl _ _).drew hb1
      refine wu 0 rfl ?_
      refine wu 1 rfl ?_
      refine wu 2 rfl ?_
      refine wu 3 rfl ?_
      refine wu 4 rfl ?_
      refine wu 5 rfl ?_
      refine wu 6 rfl ?_
      refine wu 7 rfl ?_
      refine wu 8 rfl ?_
      refine wu 9 rfl ?_
      refine wu 10 rfl ?_
      refine wy 11 rfl fun K hK => ?_
      go_simp
      refine (HC.out _).mono ?_
      rintro e w1 ⟨rfl, hb1⟩
      go_wp2_with fail
      refine hK.out _ _ ?_ (fun hHeld1 => ?_)
      · refine HKEEP.out _ ?_; first | exact (Below.refl _ _).drew | exact below_then (Below.refl _ _).drew hb1
      clear hK K hHeld0
      try simp only [Act.put, List.setIfInBounds_toArray, List.set]
      refine wu 12 rfl ?_
      refine wu 13 rfl ?_
      refine wu 14 rfl ?_
      refine wu 15 rfl ?_
      refine wpAnyH_done (by kernel_rfl) ?_ _
      refine NoPanic.normal ?_
      have HB1 := Lib.hid (below_then HB.out.drew hb1)
      clear hb1
      go_wp2_with fail
      go_ret2
      exact ⟨by rw [← HF2.out]; rfl, HB1.out⟩
    · have hnone : vs[lo]? = none := List.getElem?_eq_none (by rw [HL.out]; omega)
      have hf := HF.out
      rw [hnone] at hf
      simp only at hf
      have HF2 := Lib.hid hf
      have h1 : ¬ (lo : Int) < (n : Int) := by omega
      clear hnone hf
      go_wp2_with fail
      go_region
      go_wp2_with fail
      go_ret2
      exact ⟨by rw [HF2.out]; rfl, HB.out.drew⟩
end Go.Proofs.YtpknmfmpiachkaaGreat
namespace Go.Proofs.YtpknmfmpiachkaaGreat
open Go.RowKit
def PT (w : World) (base N : Nat) (most : Nat) (ae : Option Addr) (n cap : Nat) (L : List PI) : Prop :=
 w.heap[N]? = some (.cells #[.int .i64 (most : Nat), .slice ae n cap] 113 (0, 0)) ∧ L.length = n ∧ w.ownsRow base 184 5 (.slice ae n cap) n (L.flatMap PI.cells) ∧ N < base ∧ base ≤ w.heap.size ∧ n ≤ most ∧ most ≤ 64 ∧ ∀ v ∈ L, v.s.ok
theorem PT.f0 {w base N most ae n cap L} (h : PT w base N most ae n cap L) : w.cell? ⟨N, 0, none⟩ = some (.int .i64 (most : Nat)) := by simp [World.cell?, h.1]
theorem PT.f1 {w base N most ae n cap L} (h : PT w base N most ae n cap L) : w.cell? ⟨N, 1, none⟩ = some (.slice ae n cap) := by simp [World.cell?, h.1]
theorem PT.below {w base N most ae n cap L w'} (h : PT w base N most ae n cap L) (hb : Below w.heap.size w w') : PT w' base N most ae n cap L := by
 obtain ⟨h1, h2, h3, h4, h5, h6⟩ := h
 refine ⟨(hb.block N (lt_of_block h1)).trans h1, h2, own_below h3 hb (Nat.le_refl _), h4, Nat.le_trans h5 hb.size, h6⟩
theorem PT.drew {w base N most ae n cap L} (h : PT w base N most ae n cap L) : PT w.drew base N most ae n cap L := h.below (Below.refl _ _).drew
theorem setP (L : List PI) (p : Nat) (x : PI) (m : Int) (h : L[p]? = some x) : (L.flatMap PI.cells).set (p * 5 + 4) (.int .i64 m) = (L.set p ⟨x.s, m⟩).flatMap PI.cells := by
 induction L generalizing p with
 | nil => cases h
 | cons v r ih =>
   cases p with
   | zero =>
     rw [List.getElem?_cons_zero, Option.some.injEq] at h
     subst h
     rfl
   | succ p =>
     rw [List.getElem?_cons_succ] at h
     have := ih p h
     rw [List.set_cons_succ, List.flatMap_cons, List.flatMap_cons, ← this]
     show ([_, _, _, _, _] ++ _ : List Value).set _ _ = _
     rw [show (p + 1) * 5 + 4 = (p * 5 + 4) + 1 + 1 + 1 + 1 + 1 by omega]
     rfl
theorem PT.set {w base N most g n cap L} (h : PT w base N most (some ⟨g, 0, none⟩) n cap L) {p : Nat} {x : PI} (hp : L[p]? = some x) (m : Int) : PT (w.setCell ⟨g, p * 5 + 4, none⟩ (.int .i64 m)) base N most (some ⟨g, 0, none⟩) n cap (L.set p ⟨x.s, m⟩) := by
 obtain ⟨h1, h2, h3, h4, h5, h6, h7, h8⟩ := h
 obtain ⟨hl, hr⟩ := h3
 rcases hr with ⟨h9, _⟩ | ⟨g', cp, cur, h9, h10, h11, h12, h13, h14, h15⟩
 · cases h9
 simp only [Value.slice.injEq, Option.some.injEq, Addr.mk.injEq, and_true, true_and] at h9
 obtain ⟨rfl, rfl⟩ := h9
 have hgr := grown_set w g (p * 5 + 4) (.int .i64 m)
 have hb := set_block (i := p * 5 + 4) h11 (.int .i64 m)
 refine ⟨(hgr.block N (lt_of_block h1) (by simp; omega)).trans h1, by rw [List.length_set, h2], ⟨?_, .inr ⟨g, cap, _, rfl, h10, hb, h12, h13, ?_, ?_⟩⟩, h4, Nat.le_trans h5 hgr.size, h6, h7, fun v hv => ?_⟩
 · rw [← setP L p x m hp, List.length_set, hl]
 · rw [Array.size_setIfInBounds, h14]
 · rw [Array.toList_setIfInBounds, List.take_set, h15, setP L p x m hp]
 · rcases List.mem_or_eq_of_mem_set hv with hv | rfl
   · exact h8 v hv
   · exact h8 x (List.mem_of_getElem? hp)
def PPut (w : World) (base N most : Nat) (ae : Option Addr) (n cap : Nat) (L' : List PI) (e : Ending) (w' : World) : Prop :=
 e = .returned (.int .i64 0) ∧ ∃ ae' n' cap', PT w' base N most ae' n' cap' L' ∧ Only (VS N ae n cap) w w' ∧ (Value.ownBlock (.slice ae' n' cap') = Value.ownBlock (.slice ae n cap) ∨ ∃ g, Value.ownBlock (.slice ae' n' cap') = some g ∧ w.heap.size ≤ g)
set_option maxRecDepth 100000 in
set_option maxHeartbeats 12800000 in
theorem pput_max (base N most : Nat) (ae : Option Addr) (n cap : Nat) (L : List PI) (s : Spn) (hs : s.ok) (hne : emptyS (canonS s) = false) (num : Int) (hn1 : 1 ≤ num) (hn2 : num ≤ 1099511627776) (p : Nat) (hp : Turns (fun v : PI => cmpS v.s (canonS s)) L p) (x : PI) (hx : L[p]? = some x) (hcx : cmpS x.s (canonS s) = 0) (w : World) (hT : PT w base N most ae n cap L) :
 Calls Tryz.prog 62 #[.pointer (some ⟨N, 0, none⟩), .agg #[.float .f64 s.lo, .float .f64 s.hi, .bool s.lop, .bool s.hop], .int .i64 num] w (PPut w base N most ae n cap (L.set p ⟨x.s, max x.num num⟩)) := by
 have hc := canonS_any s hs
 have hok := canonS_ok s hs
 generalize canonS s = C at hc hok hne hp hcx
 have he := emptyS_any C hok
 rw [hne] at he
 have hpl := fun W hW hb => psearch_any C hok L hT.2.2.2.2.2.2.2 p hp ae n cap W hW hT.2.1 hb
 have hF : foundAt (fun v : PI => cmpS v.s C) L p = true := by unfold foundAt; rw [hx]; exact decide_eq_true hcx
 rw [hF] at hpl
 have hpn' : p < n := by rw [← hT.2.1]; exact (List.getElem?_eq_some_iff.1 hx).1
 have HX := Lib.hid hx
 obtain ⟨g, rfl⟩ : ∃ g, ae = some ⟨g, 0, none⟩ := by
  rcases hT.2.2.1.2 with ⟨h1, h0⟩ | ⟨g, cp, cur, h1, _⟩
  · omega
  · injection h1 with h1 _ _
    exact ⟨g, h1⟩
 have hpi : (p : Int) < (n : Int) := by omega
 have hp0 : (0 : Int) ≤ (p : Int) := by omega
 have hpt : ((p : Int)).toNat = p := by omega
 clear hF hx hcx
 have hb64 : n ≤ 64 := by have := hT.2.2.2.2.2.1; have := hT.2.2.2.2.2.2.1; omega
 have hpn : p ≤ n := by rw [← hT.2.1]; exact hp.1
 have hm1 : ¬ num < 1 := by omega
 have hm2 : ¬ 1099511627776 < num := by omega
 obtain ⟨lo, hi, lop, hop⟩ := s
 obtain ⟨clo, chi, clop, chop⟩ := C
 unfold Spn.agg at hc he
 simp only at hc he hpl ⊢
 have HC := Lib.hid hc
 have HE := Lib.hid he
 have HPL := Lib.hid hpl
 have HT := Lib.hid hT
 clear hc he hpl hp hs hne hok
 obtain ⟨Y, hY⟩ : ∃ Y, Y = w.alloc (.cells #[.float .f64 lo, .float .f64 hi, .bool lop, .bool hop] 101) := ⟨_, rfl⟩
 have hbY : Below w.heap.size w Y := hY ▸ below_alloc (Below.refl _ _) _
 have hYB : Y.heap[w.heap.size]? = some (.cells #[.float .f64 lo, .float .f64 hi, .bool lop, .bool hop] 101 (0, 0)) := hY ▸ heap_alloc_new w _
 have HBY := Lib.hid hbY
 have HYB := Lib.hid hYB
 obtain ⟨⟨a0, a1, a2, a3⟩, _⟩ := four_cells hYB
 clear hbY hYB hT
 go_enter Tryz.func62, Tryz.ntmps62
 go_upto_region 1 with fail
 rw [← hY]
 clear hY
 go_wp2_with fail
 refine (HC.out _).mono ?_
 rintro e w1 ⟨rfl, hb1⟩
 have h1B := (hb1.block w.heap.size (lt_of_block HYB.out)).trans HYB.out
 obtain ⟨⟨c0, c1, c2, c3⟩, i0, i1, i2, i3⟩ := four_cells h1B
 have HB1 := Lib.hid (below_then HBY.out hb1)
 have H1B := Lib.hid h1B
 clear hb1 a0 a1 a2 a3 h1B
 go_upto_region 2 with fail
 have h2B := set4 H1B.out (.float .f64 clo) (.float .f64 chi) (.bool clop) (.bool chop)
 have hb2 := below_set4 HB1.out (Nat.le_refl _) (.float .f64 clo) (.float .f64 chi) (.bool clop) (.bool chop)
 generalize ((((w1.setCell ⟨w.heap.size, 0, none⟩ (.float .f64 clo)).setCell ⟨w.heap.size, 1, none⟩ (.float .f64 chi)).setCell ⟨w.heap.size, 2, none⟩ (.bool clop)).setCell ⟨w.heap.size, 3, none⟩ (.bool chop)) = w2 at h2B hb2 ⊢
 obtain ⟨⟨d0, d1, d2, d3⟩, _⟩ := four_cells h2B
 have hn0 := (HT.out.below hb2).f1
 have hkeep : ∀ Z : World, Below w2.heap.size w2 Z → (fun w' : World => w'.cell? ⟨N, 1, none⟩ = some (.slice (some ⟨g, 0, none⟩) n cap) ∧ w'.cell? ⟨w.heap.size, 0, none⟩ = some (.float .f64 clo) ∧ w'.cell? ⟨w.heap.size, 1, none⟩ = some (.float .f64 chi) ∧ w'.cell? ⟨w.heap.size, 2, none⟩ = some (.bool clop) ∧ w'.cell? ⟨w.heap.size, 3, none⟩ = some (.bool chop)) Z := fun Z hZ => by
  refine ⟨?_, ?_, ?_, ?_, ?_⟩
  · exact (below_cell hZ _ (by rw [hn0]; rfl)).trans hn0
  · exact (below_cell hZ _ (by rw [d0]; rfl)).trans d0
  · exact (below_cell hZ _ (by rw [d1]; rfl)).trans d1
  · exact (below_cell hZ _ (by rw [d2]; rfl)).trans d2
  · exact (below_cell hZ _ (by rw [d3]; rfl)).trans d3
 have HKEEP := Lib.hid hkeep
 have HB2 := Lib.hid hb2
 have H2B := Lib.hid h2B
 clear hb2 h2B c0 c1 c2 c3 i0 i1 i2 i3 hkeep hn0 d0 d1 d2 d3
 refine wp_region_noPanic ?_
 refine wp_region_held_drew (S := (fun w' => w'.cell? ⟨N, 1, none⟩ = some (.slice (some ⟨g, 0, none⟩) n cap) ∧ w'.cell? ⟨w.heap.size, 0, none⟩ = some (.float .f64 clo) ∧ w'.cell? ⟨w.heap.size, 1, none⟩ = some (.float .f64 chi) ∧ w'.cell? ⟨w.heap.size, 2, none⟩ = some (.bool clop) ∧ w'.cell? ⟨w.heap.size, 3, none⟩ = some (.bool chop))) (by kernel_rfl) ?_ (fun hHeld0 => ?_)
 · refine HKEEP.out _ ?_; first | exact (Below.refl _ _).drew | exact below_then (Below.refl _ _).drew hb1
 refine wu 0 rfl ?_
 refine wu 1 rfl ?_
 refine wu 2 rfl ?_
 refine wu 3 rfl ?_
 refine wu 4 rfl ?_
 refine wy 5 rfl fun K hK => ?_
 go_simp
 refine (HPL.out _ (RowN.of_own (HT.out.below HB2.out.drew).2.2.1) (by omega)).mono ?_
 rintro e w3 ⟨rfl, hb1⟩
 go_wp2_with fail
 refine hK.out _ _ ?_ (fun hHeld1 => ?_)
 · refine HKEEP.out _ ?_; first | exact (Below.refl _ _).drew | exact below_then (Below.refl _ _).drew hb1
 clear hK K hHeld0
 try simp only [Act.put, List.setIfInBounds_toArray, List.set]
 refine wu 6 rfl ?_
 refine wu 7 rfl ?_
 refine wu 8 rfl ?_
 refine wu 9 rfl ?_
 refine wu 10 rfl ?_
 refine wpAnyH_done (by kernel_rfl) ?_ _
 refine NoPanic.normal ?_
 have h3B := (hb1.block w.heap.size (lt_of_block H2B.out)).trans H2B.out
 have HB3 := Lib.hid (below_then HB2.out.drew hb1)
 obtain ⟨⟨d0, d1, d2, d3⟩, _⟩ := four_cells h3B
 have H3B := Lib.hid h3B
 clear hb1 h3B
 go_wp2_with fail
 refine (HE.out _).mono ?_
 rintro e w4 ⟨rfl, hb4⟩
 have HB4 := Lib.hid (below_then HB3.out hb4)
 have hT4 := HT.out.below HB4.out
 have HT4 := Lib.hid hT4
 have h1 := hT4.f1
 have h0 := hT4.f0
 clear hb4 hT4 d0 d1 d2 d3
 obtain ⟨b, off, hbo, e0, e1, e2, e3, e4⟩ := pi_at (RowN.of_own HT4.out.2.2.1) HT4.out.2.1 p hpn' x HX.out
 simp only [Option.some.injEq, Addr.mk.injEq, and_true] at hbo
 obtain ⟨rfl, rfl⟩ := hbo
 rw [Nat.zero_add] at e4
 have f1 : w4.frozen? ⟨g, p * 5 + 4, none⟩ = false := World.ownsRow.frozenAt HT4.out.2.2.1 _
 clear e0 e1 e2 e3
 go_wp2_with fail
 go_region
 go_wp2
 go_ret
 refine ⟨rfl, some ⟨g, 0, none⟩, n, cap, (HT4.out.set HX.out _).drew, Only.drew ((Only.of_below HB4.out).trans (Only.of_grown (grown_set w4 g (p * 5 + 4) _) (S := VS N (some ⟨g, 0, none⟩) n cap) fun g' hg _ => .inr hg) fun _ _ h => h), .inl rfl⟩
end Go.Proofs.YtpknmfmpiachkaaGreat
