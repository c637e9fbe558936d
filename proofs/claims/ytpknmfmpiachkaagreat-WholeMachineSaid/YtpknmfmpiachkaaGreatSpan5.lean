/- Spans joined. -/
import Derived.Test.YtpknmfmpiachkaaGreatSpan4
namespace Go.Proofs.YtpknmfmpiachkaaGreat
open Go.RowKit
@[go_sem] theorem alloc_drewN (w : World) (n : Nat) (o : Obj) : (w.drewN n).alloc o = (w.alloc o).drewN n := rfl
@[go_sem] theorem setCell_drewN (w : World) (n : Nat) (a : Addr) (v : Value) : (w.drewN n).setCell a v = (w.setCell a v).drewN n := rfl
def joinS (a b : Spn) : Spn × Bool :=
 if (canonS a).lop then (canonS b, true) else if (canonS b).lop then (canonS a, true)
 else if Flo.flt (Flo.next (canonS a).hi) (canonS b).lo || Flo.flt (Flo.next (canonS b).hi) (canonS a).lo then (noneS, false)
 else (⟨Flo.least (canonS a).lo (canonS b).lo, Flo.most (canonS a).hi (canonS b).hi, false, false⟩, true)
theorem touch_drewN {S : List Nat} {w w' : World} (h : Touch S w w') (n : Nat) : Touch S w (w'.drewN n) := ⟨h.os, h.tape, h.output, h.size, h.block⟩
theorem alloc_keep {w : World} {g : Nat} {cs : Array Value} {T : TypeId} {fr : Nat × Nat} (h : w.heap[g]? = some (.cells cs T fr)) (o' : Obj) : (w.alloc o').heap[g]? = some (.cells cs T fr) := alloc_far h (lt_of_block h)
def JoinPost (w : World) (J : Spn × Bool) (e : Ending) (w' : World) : Prop := e = .returned (.tuple #[J.1.agg, .bool J.2]) ∧ Below w.heap.size w w'
set_option maxRecDepth 100000 in
set_option maxHeartbeats 3200000 in
theorem joinS_any (a b : Spn) (ha : a.ok) (hb : b.ok) (w : World) : Calls Tryz.prog 99 #[a.agg, b.agg] w (JoinPost w (joinS a b)) := by
 obtain ⟨R, hR⟩ : ∃ R, R = joinS a b := ⟨_, rfl⟩
 rw [← hR]
 unfold joinS at hR
 have ca := canonS_any a ha
 have cb := canonS_any b hb
 have oa := canonS_ok a ha
 have ob := canonS_ok b hb
 obtain ⟨A, hA⟩ : ∃ A, A = canonS a := ⟨_, rfl⟩
 obtain ⟨B, hB⟩ : ∃ B, B = canonS b := ⟨_, rfl⟩
 rw [← hA] at hR ca oa
 rw [← hB] at hR cb ob
 clear hA hB
 unfold Spn.agg at ca cb ⊢
 obtain ⟨alo, ahi, alop, ahop⟩ := a
 obtain ⟨blo, bhi, blop, bhop⟩ := b
 obtain ⟨Alo, Ahi, Alop, Ahop⟩ := A
 obtain ⟨Blo, Bhi, Blop, Bhop⟩ := B
 simp only at hR ca cb ⊢
 have CA := Lib.hid ca
 have CB := Lib.hid cb
 have HR := Lib.hid hR
 clear ca cb hR
 obtain ⟨W, hW⟩ : ∃ W, W = ((w.alloc (.cells #[.float .f64 alo, .float .f64 ahi, .bool alop, .bool ahop] 101)).alloc (.cells #[.float .f64 blo, .float .f64 bhi, .bool blop, .bool bhop] 101)).alloc (.cells #[.float .f64 0, .float .f64 0, .bool false, .bool false] 101) := ⟨_, rfl⟩
 have hWs : W.heap.size = w.heap.size + 3 := by rw [hW, World.size_alloc, World.size_alloc, World.size_alloc]
 have hA : W.heap[w.heap.size]? = some (.cells #[.float .f64 alo, .float .f64 ahi, .bool alop, .bool ahop] 101 (0, 0)) := hW ▸ alloc_far (alloc_far (heap_alloc_new w _) (by rw [World.size_alloc]; omega)) (by rw [World.size_alloc, World.size_alloc]; omega)
 have hB : W.heap[w.heap.size + 1]? = some (.cells #[.float .f64 blo, .float .f64 bhi, .bool blop, .bool bhop] 101 (0, 0)) := hW ▸ alloc_far (alloc_new1 _ _ _) (by rw [World.size_alloc, World.size_alloc]; omega)
 have hC : W.heap[w.heap.size + 2]? = some (.cells #[.float .f64 0, .float .f64 0, .bool false, .bool false] 101 (0, 0)) := by
  have h := heap_alloc_new ((w.alloc (.cells #[.float .f64 alo, .float .f64 ahi, .bool alop, .bool ahop] 101)).alloc (.cells #[.float .f64 blo, .float .f64 bhi, .bool blop, .bool bhop] 101)) (.cells #[.float .f64 0, .float .f64 0, .bool false, .bool false] 101)
  rw [World.size_alloc, World.size_alloc] at h
  exact hW ▸ h
 have hbw : Below w.heap.size w W := hW ▸ below_alloc (below_alloc (below_alloc (Below.refl _ _) _) _) _
 obtain ⟨⟨a0, a1, a2, a3⟩, f0, f1, f2, f3⟩ := four_cells hA
 obtain ⟨⟨b0, b1, b2, b3⟩, g0, g1, g2, g3⟩ := four_cells hB
 have HW := Lib.hid hW
 have HA := Lib.hid hA
 have HB := Lib.hid hB
 have HC := Lib.hid hC
 have HBW := Lib.hid hbw
 have hWl : w.heap.size + 3 ≤ W.heap.size := by omega
 clear hW hA hB hC hbw hWs
 go_enter Tryz.func99, Tryz.ntmps99
 go_wp2_with fail
 rw [← HW.out]
 go_cut [] from 6 to 9 (fun wx => Hid (wx.heap[w.heap.size]? = some (.cells #[.float .f64 Alo, .float .f64 Ahi, .bool Alop, .bool Ahop] 101 (0, 0))) ∧ Hid (wx.heap[w.heap.size + 1]? = some (.cells #[.float .f64 Blo, .float .f64 Bhi, .bool Blop, .bool Bhop] 101 (0, 0))) ∧ Hid (wx.heap[w.heap.size + 2]? = some (.cells #[.float .f64 0, .float .f64 0, .bool false, .bool false] 101 (0, 0))) ∧ Hid (Below w.heap.size w wx))
 case first =>
  go_region_with (first
   | (go_at_call_of 92 (Value.float FloatKind.f64 alo); refine (CA.out _).mono ?_; rintro e w1 ⟨rfl, hb1⟩
      have h1A := (hb1.block w.heap.size (by simp; omega)).trans HA.out
      have h1B := (hb1.block (w.heap.size + 1) (by simp; omega)).trans HB.out
      have h1C := (hb1.block (w.heap.size + 2) (by simp; omega)).trans HC.out
      obtain ⟨⟨c0, c1, c2, c3⟩, i0, i1, i2, i3⟩ := four_cells h1A
      obtain ⟨⟨d0, d1, d2, d3⟩, j0, j1, j2, j3⟩ := four_cells h1B)
   | (go_at_call_of 92 (Value.float FloatKind.f64 blo); refine (CB.out _).mono ?_; rintro e w2 ⟨rfl, hb2⟩
      have h2A := (hb2.block w.heap.size (lt_of_block h1A)).trans h1A
      have h2B := (hb2.block (w.heap.size + 1) (lt_of_block h1B)).trans h1B
      have h2C := (hb2.block (w.heap.size + 2) (lt_of_block h1C)).trans h1C
      obtain ⟨⟨k0, k1, k2, k3⟩, m0, m1, m2, m3⟩ := four_cells h2A
      obtain ⟨⟨l0, l1, l2, l3⟩, n0, n1, n2, n3⟩ := four_cells h2B))
  all_goals
   have hb := below_then (below_then HBW.out (below_then (Below.refl _ _).drew hb1)) hb2
   go_wp2_with fail
   go_meet
   exact ⟨far4 (set4 h2A _ _ _ _) (by omega) _ _ _ _, set4 (far4 h2B (by omega) _ _ _ _) _ _ _ _, far4 (far4 h2C (by omega) _ _ _ _) (by omega) _ _ _ _, below_set4 (below_set4 hb (by omega) _ _ _ _) (by omega) _ _ _ _⟩
 case rest =>
  obtain ⟨KA, KB, KC, KW⟩ := hcut
  clear a0 a1 a2 a3 b0 b1 b2 b3 f0 f1 f2 f3 g0 g1 g2 g3 HA HB HW HBW CA CB
  have kA := KA.out
  have kB := KB.out
  have kC := KC.out
  obtain ⟨⟨a0, a1, a2, a3⟩, f0, f1, f2, f3⟩ := four_cells kA
  obtain ⟨⟨b0, b1, b2, b3⟩, g0, g1, g2, g3⟩ := four_cells kB
  obtain ⟨⟨c0, c1, c2, c3⟩, i0, i1, i2, i3⟩ := four_cells kC
  clear kA kB kC
  cases Alop with
  | true =>
    go_wp2_with fail
    exact bodyPost_ret (results_cell_tmp Tryz.results99 rfl (load_span (set4 KC.out _ _ _ _))) rfl ⟨by rw [HR.out]; rfl, below_set4 KW.out (by omega) _ _ _ _⟩
  | false =>
    cases Blop with
    | true =>
      go_wp2_with fail
      exact bodyPost_ret (results_cell_tmp Tryz.results99 rfl (load_span (set4 KC.out _ _ _ _))) rfl ⟨by rw [HR.out]; rfl, below_set4 KW.out (by omega) _ _ _ _⟩
    | false =>
      have n1 := fun w => next_any Ahi w oa.2
      have n2 := fun w => next_any Bhi w ob.2
      have q1 := Flo.run_lt (Flo.next Ahi) Blo (Flo.next_lt _ oa.2) ob.1
      have q2 := Flo.run_lt (Flo.next Bhi) Alo (Flo.next_lt _ ob.2) oa.1
      obtain ⟨NA, hNA⟩ : ∃ x, x = Flo.next Ahi := ⟨_, rfl⟩
      obtain ⟨NB, hNB⟩ : ∃ x, x = Flo.next Bhi := ⟨_, rfl⟩
      have hr := HR.out
      simp only [Bool.false_eq_true, if_false] at hr
      rw [← hNA] at n1 q1 hr
      rw [← hNB] at n2 q2 hr
      have N1 := Lib.hid n1
      have N2 := Lib.hid n2
      clear n1 n2 hNA hNB HR
      cases h1 : Flo.flt NA Blo with
      | true =>
        rw [h1] at q1
        have HR : Hid (R = (noneS, false)) := by show _ = _; rw [hr, h1]; rfl
        clear hr h1 q2
        go_wp2_with fail
        go_quiet ((go_at_call 127; exact quiet_ret (N1.out _)))
        go_wp2_with fail
        refine (none_any _).mono ?_
        rintro e w2 ⟨rfl, hb2⟩
        have h2C := (hb2.block (w.heap.size + 2) (lt_of_block KC.out)).trans KC.out
        obtain ⟨⟨d0, d1, d2, d3⟩, j0, j1, j2, j3⟩ := four_cells h2C
        have H2C := Lib.hid h2C
        have HB2 := Lib.hid (below_then (below_drewN KW.out _) hb2)
        clear h2C hb2
        go_wp2_with fail
        exact bodyPost_ret (results_cell_tmp Tryz.results99 rfl (load_span (set4 H2C.out _ _ _ _))) rfl ⟨by rw [HR.out]; rfl, below_set4 HB2.out (by omega) _ _ _ _⟩
      | false =>
        cases h2 : Flo.flt NB Alo with
        | true =>
          rw [h1] at q1
          rw [h2] at q2
          have HR : Hid (R = (noneS, false)) := by show _ = _; rw [hr, h1, h2]; rfl
          clear hr h1 h2
          go_wp2_with fail
          go_quiet ((first | (go_at_call_of 127 (Value.float FloatKind.f64 Ahi); exact quiet_ret (N1.out _)) | (go_at_call_of 127 (Value.float FloatKind.f64 Bhi); exact quiet_ret (N2.out _))))
          go_wp2_with fail
          refine (none_any _).mono ?_
          rintro e w2 ⟨rfl, hb2⟩
          have h2C := (hb2.block (w.heap.size + 2) (lt_of_block KC.out)).trans KC.out
          obtain ⟨⟨d0, d1, d2, d3⟩, j0, j1, j2, j3⟩ := four_cells h2C
          have H2C := Lib.hid h2C
          have HB2 := Lib.hid (below_then (below_drewN KW.out _) hb2)
          clear h2C hb2
          go_wp2_with fail
          exact bodyPost_ret (results_cell_tmp Tryz.results99 rfl (load_span (set4 H2C.out _ _ _ _))) rfl ⟨by rw [HR.out]; rfl, below_set4 HB2.out (by omega) _ _ _ _⟩
        | false =>
          rw [h1] at q1
          rw [h2] at q2
          have HR : Hid (R = (⟨Flo.least Alo Blo, Flo.most Ahi Bhi, false, false⟩, true)) := by show _ = _; rw [hr, h1, h2]; rfl
          clear hr h1 h2
          go_wp2_with fail
          go_quiet ((first | (go_at_call_of 127 (Value.float FloatKind.f64 Ahi); exact quiet_ret (N1.out _)) | (go_at_call_of 127 (Value.float FloatKind.f64 Bhi); exact quiet_ret (N2.out _))))
          go_wp2_with fail
          clear a2 a3 b2 b3 f0 f1 f2 f3 g0 g1 g2 g3 q1 q2 N1 N2
          have hz2 : w.heap.size + 2 < wc.heap.size := lt_of_block KC.out
          have hz1 : w.heap.size + 1 < wc.heap.size := lt_of_block KB.out
          have hz3 : w.heap.size + 2 < wc.heap.size + 1 := by omega
          have hkeep : ∀ Z, Touch [w.heap.size + 2] wc Z → Z.cell? ⟨w.heap.size, 0, none⟩ = some (.float .f64 Alo) ∧ Z.cell? ⟨w.heap.size + 1, 0, none⟩ = some (.float .f64 Blo) ∧ Z.cell? ⟨w.heap.size, 1, none⟩ = some (.float .f64 Ahi) ∧ Z.cell? ⟨w.heap.size + 1, 1, none⟩ = some (.float .f64 Bhi) := fun Z hZ => by
           have e1 := (hZ.block w.heap.size (lt_of_block KA.out) (by simp)).trans KA.out
           have e2 := (hZ.block (w.heap.size + 1) (lt_of_block KB.out) (by simp)).trans KB.out
           exact ⟨(four_cells e1).1.1, (four_cells e2).1.1, (four_cells e1).1.2.1, (four_cells e2).1.2.1⟩
          have HKEEP := Lib.hid hkeep
          clear hkeep a0 a1 b0 b1
          refine wp_region_noPanic ?_
          refine wp_region_held_drew (S := (fun w' => w'.cell? ⟨w.heap.size, 0, none⟩ = some (.float .f64 Alo) ∧ w'.cell? ⟨w.heap.size + 1, 0, none⟩ = some (.float .f64 Blo) ∧ w'.cell? ⟨w.heap.size, 1, none⟩ = some (.float .f64 Ahi) ∧ w'.cell? ⟨w.heap.size + 1, 1, none⟩ = some (.float .f64 Bhi))) (by kernel_rfl) ?_ (fun hHeld0 => ?_)
          · refine HKEEP.out _ ?_; (repeat (first | assumption | exact Touch.refl _ _ | refine touch_alloc ?_ _ | refine touch_set ?_ _ _ _ (by simp) | refine touch_drewN ?_ _ | refine Touch.drew ?_))
          refine wu 0 rfl ?_ (hw := by rfl)
          refine wu 1 rfl ?_ (hw := by rfl)
          refine wu 2 rfl ?_ (hw := by rfl)
          refine wu 3 rfl ?_ (hw := by rfl)
          refine wu 6 rfl ?_ (hw := by rfl)
          refine wu 7 rfl ?_ (hw := by rfl)
          refine wu 8 rfl ?_ (hw := by rfl)
          refine wu 9 rfl ?_ (hw := by rfl)
          refine wz 4 10 rfl (fun K hK => ?_) rfl fun K hK => ?_
          · skip
            go_simp
            refine hK.out _ _ ?_ (fun hHeld1 => ?_)
            · refine HKEEP.out _ ?_; (repeat (first | assumption | exact Touch.refl _ _ | refine touch_alloc ?_ _ | refine touch_set ?_ _ _ _ (by simp) | refine touch_drewN ?_ _ | refine Touch.drew ?_))
            clear hK K hHeld0
            try simp only [Act.put, List.setIfInBounds_toArray, List.set]
            refine wz 5 10 rfl (fun K hK => ?_) rfl fun K hK => ?_
            · skip
              go_simp
              go_at_call 135
              refine (least_any Alo Blo _ _ _ oa.1 ob.1 ?_ ?_).mono ?_
              · go_simp
              · go_simp
              rintro e wm ⟨rfl, rfl⟩
              go_wp2_with fail
              refine hK.out _ _ ?_ (fun hHeld2 => ?_)
              · refine HKEEP.out _ ?_; (repeat (first | assumption | exact Touch.refl _ _ | refine touch_alloc ?_ _ | refine touch_set ?_ _ _ _ (by simp) | refine touch_drewN ?_ _ | refine Touch.drew ?_))
              clear hK K hHeld1
              try simp only [Act.put, List.setIfInBounds_toArray, List.set]
              refine wy 10 rfl fun K hK => ?_
              go_simp
              refine hK.out _ _ ?_ (fun hHeld3 => ?_)
              · refine HKEEP.out _ ?_; (repeat (first | assumption | exact Touch.refl _ _ | refine touch_alloc ?_ _ | refine touch_set ?_ _ _ _ (by simp) | refine touch_drewN ?_ _ | refine Touch.drew ?_))
              clear hK K hHeld2
              try simp only [Act.put, List.setIfInBounds_toArray, List.set]
              refine wy 11 rfl fun K hK => ?_
              go_simp
              go_at_call 136
              refine (most_any Ahi Bhi _ _ _ oa.2 ob.2 ?_ ?_).mono ?_
              · go_simp
              · go_simp
              rintro e wm ⟨rfl, rfl⟩
              go_wp2_with fail
              refine hK.out _ _ ?_ (fun hHeld4 => ?_)
              · refine HKEEP.out _ ?_; (repeat (first | assumption | exact Touch.refl _ _ | refine touch_alloc ?_ _ | refine touch_set ?_ _ _ _ (by simp) | refine touch_drewN ?_ _ | refine Touch.drew ?_))
              clear hK K hHeld3
              try simp only [Act.put, List.setIfInBounds_toArray, List.set]
              refine wu 12 rfl ?_ (hw := by rfl)
              refine wy 13 rfl fun K hK => ?_
              go_simp
              refine hK.out _ _ ?_ (fun hHeld5 => ?_)
              · refine HKEEP.out _ ?_; (repeat (first | assumption | exact Touch.refl _ _ | refine touch_alloc ?_ _ | refine touch_set ?_ _ _ _ (by simp) | refine touch_drewN ?_ _ | refine Touch.drew ?_))
              clear hK K hHeld4
              try simp only [Act.put, List.setIfInBounds_toArray, List.set]
              refine wu 14 rfl ?_ (hw := by rfl)
              refine wpAnyH_done (by kernel_rfl) ?_ _
              refine NoPanic.normal ?_
              go_wp2_with fail
              exact bodyPost_ret (results_cell_tmp Tryz.results99 rfl (load_span (alloc_keep (alloc_keep (set4 KC.out _ _ _ _) _) _))) rfl ⟨by rw [HR.out]; rfl, below_drewN (below_alloc (below_alloc (below_set4 KW.out (by omega) _ _ _ _) _) _) _⟩
            · skip
              go_simp
              refine hK.out _ _ ?_ (fun hHeld6 => ?_)
              · refine HKEEP.out _ ?_; (repeat (first | assumption | exact Touch.refl _ _ | refine touch_alloc ?_ _ | refine touch_set ?_ _ _ _ (by simp) | refine touch_drewN ?_ _ | refine Touch.drew ?_))
              clear hK K hHeld1
              try simp only [Act.put, List.setIfInBounds_toArray, List.set]
              refine wy 5 rfl fun K hK => ?_
              go_simp
              go_at_call 135
              refine (least_any Alo Blo _ _ _ oa.1 ob.1 ?_ ?_).mono ?_
              · go_simp
              · go_simp
              rintro e wm ⟨rfl, rfl⟩
              go_wp2_with fail
              refine hK.out _ _ ?_ (fun hHeld7 => ?_)
              · refine HKEEP.out _ ?_; (repeat (first | assumption | exact Touch.refl _ _ | refine touch_alloc ?_ _ | refine touch_set ?_ _ _ _ (by simp) | refine touch_drewN ?_ _ | refine Touch.drew ?_))
              clear hK K hHeld6
              try simp only [Act.put, List.setIfInBounds_toArray, List.set]
              refine wy 11 rfl fun K hK => ?_
              go_simp
              go_at_call 136
              refine (most_any Ahi Bhi _ _ _ oa.2 ob.2 ?_ ?_).mono ?_
              · go_simp
              · go_simp
              rintro e wm ⟨rfl, rfl⟩
              go_wp2_with fail
              refine hK.out _ _ ?_ (fun hHeld8 => ?_)
              · refine HKEEP.out _ ?_; (repeat (first | assumption | exact Touch.refl _ _ | refine touch_alloc ?_ _ | refine touch_set ?_ _ _ _ (by simp) | refine touch_drewN ?_ _ | refine Touch.drew ?_))
              clear hK K hHeld7
              try simp only [Act.put, List.setIfInBounds_toArray, List.set]
              refine wu 12 rfl ?_ (hw := by rfl)
              refine wy 13 rfl fun K hK => ?_
              go_simp
              refine hK.out _ _ ?_ (fun hHeld9 => ?_)
              · refine HKEEP.out _ ?_; (repeat (first | assumption | exact Touch.refl _ _ | refine touch_alloc ?_ _ | refine touch_set ?_ _ _ _ (by simp) | refine touch_drewN ?_ _ | refine Touch.drew ?_))
              clear hK K hHeld8
              try simp only [Act.put, List.setIfInBounds_toArray, List.set]
              refine wu 14 rfl ?_ (hw := by rfl)
              refine wpAnyH_done (by kernel_rfl) ?_ _
              refine NoPanic.normal ?_
              go_wp2_with fail
              exact bodyPost_ret (results_cell_tmp Tryz.results99 rfl (load_span (alloc_keep (alloc_keep (set4 KC.out _ _ _ _) _) _))) rfl ⟨by rw [HR.out]; rfl, below_drewN (below_alloc (below_alloc (below_set4 KW.out (by omega) _ _ _ _) _) _) _⟩
          · skip
            go_simp
            refine hK.out _ _ ?_ (fun hHeld10 => ?_)
            · refine HKEEP.out _ ?_; (repeat (first | assumption | exact Touch.refl _ _ | refine touch_alloc ?_ _ | refine touch_set ?_ _ _ _ (by simp) | refine touch_drewN ?_ _ | refine Touch.drew ?_))
            clear hK K hHeld0
            try simp only [Act.put, List.setIfInBounds_toArray, List.set]
            refine wy 4 rfl fun K hK => ?_
            go_simp
            refine hK.out _ _ ?_ (fun hHeld11 => ?_)
            · refine HKEEP.out _ ?_; (repeat (first | assumption | exact Touch.refl _ _ | refine touch_alloc ?_ _ | refine touch_set ?_ _ _ _ (by simp) | refine touch_drewN ?_ _ | refine Touch.drew ?_))
            clear hK K hHeld10
            try simp only [Act.put, List.setIfInBounds_toArray, List.set]
            refine wy 5 rfl fun K hK => ?_
            go_simp
            go_at_call 135
            refine (least_any Alo Blo _ _ _ oa.1 ob.1 ?_ ?_).mono ?_
            · go_simp
            · go_simp
            rintro e wm ⟨rfl, rfl⟩
            go_wp2_with fail
            refine hK.out _ _ ?_ (fun hHeld12 => ?_)
            · refine HKEEP.out _ ?_; (repeat (first | assumption | exact Touch.refl _ _ | refine touch_alloc ?_ _ | refine touch_set ?_ _ _ _ (by simp) | refine touch_drewN ?_ _ | refine Touch.drew ?_))
            clear hK K hHeld11
            try simp only [Act.put, List.setIfInBounds_toArray, List.set]
            refine wy 11 rfl fun K hK => ?_
            go_simp
            go_at_call 136
            refine (most_any Ahi Bhi _ _ _ oa.2 ob.2 ?_ ?_).mono ?_
            · go_simp
            · go_simp
            rintro e wm ⟨rfl, rfl⟩
            go_wp2_with fail
            refine hK.out _ _ ?_ (fun hHeld13 => ?_)
            · refine HKEEP.out _ ?_; (repeat (first | assumption | exact Touch.refl _ _ | refine touch_alloc ?_ _ | refine touch_set ?_ _ _ _ (by simp) | refine touch_drewN ?_ _ | refine Touch.drew ?_))
            clear hK K hHeld12
            try simp only [Act.put, List.setIfInBounds_toArray, List.set]
            refine wu 12 rfl ?_ (hw := by rfl)
            refine wy 13 rfl fun K hK => ?_
            go_simp
            refine hK.out _ _ ?_ (fun hHeld14 => ?_)
            · refine HKEEP.out _ ?_; (repeat (first | assumption | exact Touch.refl _ _ | refine touch_alloc ?_ _ | refine touch_set ?_ _ _ _ (by simp) | refine touch_drewN ?_ _ | refine Touch.drew ?_))
            clear hK K hHeld13
            try simp only [Act.put, List.setIfInBounds_toArray, List.set]
            refine wu 14 rfl ?_ (hw := by rfl)
            refine wpAnyH_done (by kernel_rfl) ?_ _
            refine NoPanic.normal ?_
            go_wp2_with fail
            exact bodyPost_ret (results_cell_tmp Tryz.results99 rfl (load_span (alloc_keep (alloc_keep (set4 KC.out _ _ _ _) _) _))) rfl ⟨by rw [HR.out]; rfl, below_drewN (below_alloc (below_alloc (below_set4 KW.out (by omega) _ _ _ _) _) _) _⟩
end Go.Proofs.YtpknmfmpiachkaaGreat
