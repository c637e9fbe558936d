/- cert's New and Count. -/
import Derived.Test.YtpknmfmpiachkaaGreatCert4
namespace Go.Proofs.YtpknmfmpiachkaaGreat
open Go.RowKit
def clampOld (x : Int) : Nat := (min (max x 0) 64).toNat
def clampKeep (x : Int) : Nat := (min (max x 1) 32).toNat
set_option maxHeartbeats 800000 in
theorem vnewI_any (x : Int) (w : World) : Calls Tryz.prog 21 #[.int .i64 x] w fun e w' =>
 e = .returned (.pointer (some ⟨w.heap.size, 0, none⟩)) ∧ w' = w.alloc (.cells #[.int .i64 (clampOld x : Nat), .slice none 0 0] 110 (0, 0)) := by
 obtain ⟨R, hR⟩ : ∃ R : Int, R = (clampOld x : Nat) := ⟨_, rfl⟩
 rw [← hR]
 unfold clampOld at hR
 by_cases h1 : x < 0
 · have hR2 : Hid (R = 0) := by show _ = _; omega
   have k5 : max x 0 = 0 := by omega
   have k6 : min (0 : Int) 64 = 0 := by decide
   clear hR
   go_enter Tryz.func21, Tryz.ntmps21
   go_wp2_with fail
   go_ret
   exact ⟨rfl, by first | (rw [hR2.out]; done) | (rw [hR2.out]; rfl)⟩
 · by_cases h2 : 64 < x
   · have hR2 : Hid (R = 64) := by show _ = _; omega
     have k5 : max x 0 = x := by omega
     have k6 : min x 64 = 64 := by omega
     have k3 : 0 ≤ x := by omega
     clear hR
     go_enter Tryz.func21, Tryz.ntmps21
     go_wp2_with fail
     go_ret
     exact ⟨rfl, by first | (rw [hR2.out]; done) | (rw [hR2.out]; rfl)⟩
   · have hR2 : Hid (R = x) := by show _ = _; omega
     have k5 : max x 0 = x := by omega
     have k6 : min x 64 = x := by omega
     have k3 : 0 ≤ x := by omega
     have k4 : x ≤ 64 := by omega
     clear hR
     go_enter Tryz.func21, Tryz.ntmps21
     go_wp2_with fail
     go_ret
     exact ⟨rfl, by first | (rw [hR2.out]; done) | (rw [hR2.out]; rfl)⟩
set_option maxHeartbeats 800000 in
theorem pnewI_any (x : Int) (w : World) : Calls Tryz.prog 22 #[.int .i64 x] w fun e w' =>
 e = .returned (.pointer (some ⟨w.heap.size, 0, none⟩)) ∧ w' = w.alloc (.cells #[.int .i64 (clampOld x : Nat), .slice none 0 0] 113 (0, 0)) := by
 obtain ⟨R, hR⟩ : ∃ R : Int, R = (clampOld x : Nat) := ⟨_, rfl⟩
 rw [← hR]
 unfold clampOld at hR
 by_cases h1 : x < 0
 · have hR2 : Hid (R = 0) := by show _ = _; omega
   have k5 : max x 0 = 0 := by omega
   have k6 : min (0 : Int) 64 = 0 := by decide
   clear hR
   go_enter Tryz.func22, Tryz.ntmps22
   go_wp2_with fail
   go_ret
   exact ⟨rfl, by first | (rw [hR2.out]; done) | (rw [hR2.out]; rfl)⟩
 · by_cases h2 : 64 < x
   · have hR2 : Hid (R = 64) := by show _ = _; omega
     have k5 : max x 0 = x := by omega
     have k6 : min x 64 = 64 := by omega
     have k3 : 0 ≤ x := by omega
     clear hR
     go_enter Tryz.func22, Tryz.ntmps22
     go_wp2_with fail
     go_ret
     exact ⟨rfl, by first | (rw [hR2.out]; done) | (rw [hR2.out]; rfl)⟩
   · have hR2 : Hid (R = x) := by show _ = _; omega
     have k5 : max x 0 = x := by omega
     have k6 : min x 64 = x := by omega
     have k3 : 0 ≤ x := by omega
     have k4 : x ≤ 64 := by omega
     clear hR
     go_enter Tryz.func22, Tryz.ntmps22
     go_wp2_with fail
     go_ret
     exact ⟨rfl, by first | (rw [hR2.out]; done) | (rw [hR2.out]; rfl)⟩
def newP (keep old : Int) : CertV := ⟨clampKeep keep, old, clampOld old, 0, 0, [], [], [], [], []⟩
theorem newP_ok (keep old : Int) : (newP keep old).Ok := by
 refine ⟨?_, ?_, ?_, ?_, ⟨List.Pairwise.nil, fun _ h => absurd h List.not_mem_nil⟩, ⟨List.Pairwise.nil, fun _ h => absurd h List.not_mem_nil⟩, ⟨List.Pairwise.nil, fun _ h => absurd h List.not_mem_nil⟩, ⟨List.Pairwise.nil, fun _ h => absurd h List.not_mem_nil⟩, fun _ h => absurd h List.not_mem_nil, fun _ h => absurd h List.not_mem_nil⟩
 · simp only [newP, clampKeep]; omega
 · simp only [newP, clampOld]; omega
 · simp only [newP]; omega
 · simp only [newP, List.length_nil]; omega
def NewPost (κ : Nat → Nat) (w : World) (k : Nat) (c : CertV) (e : Ending) (w' : World) : Prop :=
 ∃ A κ', e = .returned (.pointer (some ⟨A, 0, none⟩)) ∧ w.heap.size ≤ A ∧ Below w.heap.size w w' ∧ (∀ g, g < w.heap.size → κ' g = κ g) ∧ CertAt w' κ' k A c
theorem tab_new {w : World} {κ : Nat → Nat} {i N most : Nat} (h : w.heap[N]? = some (.cells #[.int .i64 (most : Nat), .slice none 0 0] 110 (0, 0))) (hm : most ≤ 64) (hk : κ N = i) : TabAt w κ i N most [] :=
 ⟨w.heap.size, none, 0, 0, ⟨h, rfl, World.ownsRow_nil _ _ _ _, lt_of_block h, Nat.le_refl _, Nat.zero_le _, hm, fun _ h => absurd h List.not_mem_nil⟩, hk, fun g h => absurd h (by simp [Value.ownBlock])⟩
theorem ptab_new {w : World} {κ : Nat → Nat} {i N most : Nat} (h : w.heap[N]? = some (.cells #[.int .i64 (most : Nat), .slice none 0 0] 113 (0, 0))) (hm : most ≤ 64) (hk : κ N = i) : PTabAt w κ i N most [] :=
 ⟨w.heap.size, none, 0, 0, ⟨h, rfl, World.ownsRow_nil _ _ _ _, lt_of_block h, Nat.le_refl _, Nat.zero_le _, hm, fun _ h => absurd h List.not_mem_nil⟩, hk, fun g h => absurd h (by simp [Value.ownBlock])⟩
def vtab (OL : Nat) : Obj := .cells #[.int .i64 (OL : Nat), .slice none 0 0] 110 (0, 0)
def ptab (OL : Nat) : Obj := .cells #[.int .i64 (OL : Nat), .slice none 0 0] 113 (0, 0)
theorem new_end {κ : Nat → Nat} {w w4 : World} {k N1 N2 N3 N4 : Nat} {keep old KP : Int} (hKP : KP = (clampKeep keep : Nat)) (hb : Below w.heap.size w w4) (h1 : w4.heap[N1]? = some (vtab (clampOld old))) (h2 : w4.heap[N2]? = some (vtab (clampOld old))) (h3 : w4.heap[N3]? = some (vtab (clampOld old))) (h4 : w4.heap[N4]? = some (ptab (clampOld old)))
 (g0 : w.heap.size ≤ N1) (g1 : N1 < N2) (g2 : N2 < N3) (g3 : N3 < N4) :
 NewPost κ w k (newP keep old) (.returned (.pointer (some ⟨w4.heap.size, 0, none⟩))) (w4.alloc (.cells #[.int .i64 KP, .int .i64 old, .int .i64 0, .int .i64 0, .slice none 0 0, .pointer (some ⟨N1, 0, none⟩), .pointer (some ⟨N2, 0, none⟩), .pointer (some ⟨N3, 0, none⟩), .pointer (some ⟨N4, 0, none⟩)] 70)) := by
 have hm : clampOld old ≤ 64 := by unfold clampOld; omega
 have g4 : N4 < w4.heap.size := by
  rcases Nat.lt_or_ge N4 w4.heap.size with h | h
  · exact h
  · rw [Array.getElem?_eq_none h] at h4; cases h4
 subst hKP
 refine ⟨w4.heap.size, fun g => if g < w.heap.size then κ g else if g = N1 then k + 1 else if g = N2 then k + 2 else if g = N3 then k + 3 else if g = N4 then k + 4 else k, rfl, hb.size, below_alloc hb _, fun g hg => if_pos hg, N1, N2, N3, N4, none, 0, 0, heap_alloc_new w4 _, ?_, tab_new (alloc_far h1 (by omega)) hm ?_, tab_new (alloc_far h2 (by omega)) hm ?_, tab_new (alloc_far h3 (by omega)) hm ?_, ptab_new (alloc_far h4 (by omega)) hm ?_, rfl, ⟨w.heap.size, Nat.le_trans hb.size (by simp), World.ownsRow_nil _ _ _ _⟩, fun g h => absurd h (by simp [Value.ownBlock]), fun _ h => absurd h List.not_mem_nil⟩
 all_goals
  have hb := hb.size
  simp only
  repeat' (first | rfl | omega | (rw [if_neg (by omega)]) | (rw [if_pos rfl]))
set_option maxRecDepth 100000 in
set_option maxHeartbeats 6400000 in
theorem new_any (κ : Nat → Nat) (k : Nat) (keep old : Int) (w : World) : Calls Tryz.prog 7 #[.agg #[.int .i64 keep, .int .i64 old]] w (NewPost κ w k (newP keep old)) := by
 obtain ⟨KP, hKP⟩ : ∃ KP : Int, KP = (clampKeep keep : Nat) := ⟨_, rfl⟩
 obtain ⟨OL, hOL⟩ : ∃ OL : Nat, OL = clampOld old := ⟨_, rfl⟩
 have hv := vnewI_any old
 have hpn := pnewI_any old
 rw [← hOL] at hv hpn
 have HV := Lib.hid hv
 have HPN := Lib.hid hpn
 have HKP := Lib.hid hKP
 have HOL := Lib.hid hOL
 clear hv hpn hOL
 have hmx : (max keep 1 = 1 ∧ keep ≤ 1 ∧ KP = 1) ∨ (max keep 1 = keep ∧ 1 ≤ keep ∧ keep ≤ 32 ∧ KP = keep) ∨ (max keep 1 = keep ∧ 1 ≤ keep ∧ 32 < keep ∧ KP = 32) := by rw [hKP]; unfold clampKeep; omega
 clear hKP
 obtain ⟨Y, hY⟩ : ∃ Y, Y = w.alloc (.cells #[.int .i64 KP, .int .i64 old] 31) := ⟨_, rfl⟩
 have hbY : Below w.heap.size w Y := hY ▸ below_alloc (Below.refl _ _) _
 have hYB : Y.heap[w.heap.size]? = some (.cells #[.int .i64 KP, .int .i64 old] 31 (0, 0)) := hY ▸ heap_alloc_new w _
 have hkeep : ∀ Z : World, Z.heap[w.heap.size]? = some (.cells #[.int .i64 KP, .int .i64 old] 31 (0, 0)) → (fun w' : World => w'.cell? ⟨w.heap.size, 0, none⟩ = some (.int .i64 KP) ∧ w'.cell? ⟨w.heap.size, 1, none⟩ = some (.int .i64 old)) Z := fun Z hB => ⟨(two_cells hB).1, (two_cells hB).2.1⟩
 have HKEEP := Lib.hid hkeep
 have HBY := Lib.hid hbY
 have HYB := Lib.hid hYB
 have HY := Lib.hid hY
 clear hbY hYB hY hkeep
 go_enter Tryz.func7, Tryz.ntmps7
 go_upto_region 1 with fail
 go_cut [] (fun wx => Y = wx)
 case first =>
  rcases hmx with ⟨k1, k2, k3⟩ | ⟨k1, k2, k3, k4⟩ | ⟨k1, k2, k3, k4⟩
  · subst k3
    have k6 : min (1 : Int) 32 = 1 := by decide
    go_wp2_with fail
    go_meet
    exact HY.out
  · subst k4
    have k6 : min KP 32 = KP := by omega
    go_wp2_with fail
    go_meet
    exact HY.out
  · subst k4
    have k6 : min keep 32 = 32 := by omega
    go_wp2_with fail
    go_meet
    exact HY.out
 case rest =>
 obtain rfl := hcut
 clear hmx HY
 go_upto_region 2 with fail
 refine wp_region_noPanic ?_
 refine wp_region_held_drew (S := (fun w' => w'.cell? ⟨w.heap.size, 0, none⟩ = some (.int .i64 KP) ∧ w'.cell? ⟨w.heap.size, 1, none⟩ = some (.int .i64 old))) (by kernel_rfl) ?_ (fun hHeld0 => ?_)
 · first | exact HKEEP.out _ (HYB.out) | exact HKEEP.out _ (HC1.out) | exact HKEEP.out _ (HC2.out) | exact HKEEP.out _ (HC3.out) | exact HKEEP.out _ (HC4.out) | exact HKEEP.out _ (alloc_keep HC4.out _)
 refine wu 0 rfl ?_
 refine wu 1 rfl ?_
 refine wu 2 rfl ?_
 refine wu 4 rfl ?_
 refine wu 5 rfl ?_
 refine wu 7 rfl ?_
 refine wu 8 rfl ?_
 refine wu 10 rfl ?_
 refine wu 11 rfl ?_
 refine wy 3 rfl fun K hK => ?_
 go_simp
 refine (HV.out _).mono ?_
 rintro e w1 ⟨rfl, hw1⟩
 have HB1 : Hid (Below w.heap.size w w1) := hw1 ▸ below_alloc HBY.out.drew _
 have HC1 : Hid (w1.heap[w.heap.size]? = _) := hw1 ▸ alloc_keep (w := Y.drew) HYB.out _
 have HN1 : Hid (w1.heap[Y.heap.size]? = some (vtab OL)) := hw1 ▸ heap_alloc_new Y.drew _
 have hs1 : Y.heap.size < w1.heap.size := by rw [hw1]; simp
 clear hw1
 go_wp2_with fail
 refine hK.out _ _ ?_ (fun hHeld1 => ?_)
 · first | exact HKEEP.out _ (HYB.out) | exact HKEEP.out _ (HC1.out) | exact HKEEP.out _ (HC2.out) | exact HKEEP.out _ (HC3.out) | exact HKEEP.out _ (HC4.out) | exact HKEEP.out _ (alloc_keep HC4.out _)
 clear hK K hHeld0
 try simp only [Act.put, List.setIfInBounds_toArray, List.set]
 refine wy 6 rfl fun K hK => ?_
 go_simp
 refine (HV.out _).mono ?_
 rintro e w2 ⟨rfl, hw2⟩
 have HB2 : Hid (Below w.heap.size w w2) := hw2 ▸ below_alloc HB1.out _
 have HC2 : Hid (w2.heap[w.heap.size]? = _) := hw2 ▸ alloc_keep (w := w1) HC1.out _
 have HN2 : Hid (w2.heap[w1.heap.size]? = some (vtab OL)) := hw2 ▸ heap_alloc_new w1 _
 have hs2 : w1.heap.size < w2.heap.size := by rw [hw2]; simp
 have HN1 : Hid (w2.heap[Y.heap.size]? = some (vtab OL)) := hw2 ▸ alloc_far HN1.out (by omega)
 clear hw2
 go_wp2_with fail
 refine hK.out _ _ ?_ (fun hHeld2 => ?_)
 · first | exact HKEEP.out _ (HYB.out) | exact HKEEP.out _ (HC1.out) | exact HKEEP.out _ (HC2.out) | exact HKEEP.out _ (HC3.out) | exact HKEEP.out _ (HC4.out) | exact HKEEP.out _ (alloc_keep HC4.out _)
 clear hK K hHeld1
 try simp only [Act.put, List.setIfInBounds_toArray, List.set]
 refine wy 9 rfl fun K hK => ?_
 go_simp
 refine (HV.out _).mono ?_
 rintro e w3 ⟨rfl, hw3⟩
 have HB3 : Hid (Below w.heap.size w w3) := hw3 ▸ below_alloc HB2.out _
 have HC3 : Hid (w3.heap[w.heap.size]? = _) := hw3 ▸ alloc_keep (w := w2) HC2.out _
 have HN3 : Hid (w3.heap[w2.heap.size]? = some (vtab OL)) := hw3 ▸ heap_alloc_new w2 _
 have hs3 : w2.heap.size < w3.heap.size := by rw [hw3]; simp
 have HN1 : Hid (w3.heap[Y.heap.size]? = some (vtab OL)) := hw3 ▸ alloc_far HN1.out (by omega)
 have HN2 : Hid (w3.heap[w1.heap.size]? = some (vtab OL)) := hw3 ▸ alloc_far HN2.out (by omega)
 clear hw3
 go_wp2_with fail
 refine hK.out _ _ ?_ (fun hHeld3 => ?_)
 · first | exact HKEEP.out _ (HYB.out) | exact HKEEP.out _ (HC1.out) | exact HKEEP.out _ (HC2.out) | exact HKEEP.out _ (HC3.out) | exact HKEEP.out _ (HC4.out) | exact HKEEP.out _ (alloc_keep HC4.out _)
 clear hK K hHeld2
 try simp only [Act.put, List.setIfInBounds_toArray, List.set]
 refine wy 12 rfl fun K hK => ?_
 go_simp
 refine (HPN.out _).mono ?_
 rintro e w4 ⟨rfl, hw4⟩
 have HB4 : Hid (Below w.heap.size w w4) := hw4 ▸ below_alloc HB3.out _
 have HC4 : Hid (w4.heap[w.heap.size]? = _) := hw4 ▸ alloc_keep (w := w3) HC3.out _
 have HN4 : Hid (w4.heap[w3.heap.size]? = some (ptab OL)) := hw4 ▸ heap_alloc_new w3 _
 have hs4 : w3.heap.size < w4.heap.size := by rw [hw4]; simp
 have HN1 : Hid (w4.heap[Y.heap.size]? = some (vtab OL)) := hw4 ▸ alloc_far HN1.out (by omega)
 have HN2 : Hid (w4.heap[w1.heap.size]? = some (vtab OL)) := hw4 ▸ alloc_far HN2.out (by omega)
 have HN3 : Hid (w4.heap[w2.heap.size]? = some (vtab OL)) := hw4 ▸ alloc_far HN3.out (by omega)
 clear hw4
 go_wp2_with fail
 refine hK.out _ _ ?_ (fun hHeld4 => ?_)
 · first | exact HKEEP.out _ (HYB.out) | exact HKEEP.out _ (HC1.out) | exact HKEEP.out _ (HC2.out) | exact HKEEP.out _ (HC3.out) | exact HKEEP.out _ (HC4.out) | exact HKEEP.out _ (alloc_keep HC4.out _)
 clear hK K hHeld3
 try simp only [Act.put, List.setIfInBounds_toArray, List.set]
 refine wu 13 rfl ?_
 refine wy 14 rfl fun K hK => ?_
 go_simp
 refine hK.out _ _ ?_ (fun hHeld5 => ?_)
 · first | exact HKEEP.out _ (HYB.out) | exact HKEEP.out _ (HC1.out) | exact HKEEP.out _ (HC2.out) | exact HKEEP.out _ (HC3.out) | exact HKEEP.out _ (HC4.out) | exact HKEEP.out _ (alloc_keep HC4.out _)
 clear hK K hHeld4
 try simp only [Act.put, List.setIfInBounds_toArray, List.set]
 refine wu 15 rfl ?_
 refine wpAnyH_done (by kernel_rfl) ?_ _
 refine NoPanic.normal ?_
 go_wp2_with fail
 go_ret
 have ho := HOL.out
 have h1 := HN1.out
 have h2 := HN2.out
 have h3 := HN3.out
 have h4 := HN4.out
 rw [ho] at h1 h2 h3 h4
 exact new_end HKP.out HB4.out h1 h2 h3 h4 HBY.out.size hs1 hs2 hs3
set_option maxHeartbeats 800000 in
theorem count_any (κ : Nat → Nat) (k A : Nat) (c : CertV) (w : World) (hC : CertAt w κ k A c) : Calls Tryz.prog 8 #[.pointer (some ⟨A, 0, none⟩)] w (RetEq w (.int .i64 c.count)) := by
 obtain ⟨N1, N2, N3, N4, a, n, cap, hA, _⟩ := hC
 obtain ⟨_, _, q2, _⟩ := nine_cells (show w.heap[A]? = some (.cells #[_, _, _, _, _, _, _, _, _] _ _) from hA)
 clear hA
 go_enter Tryz.func8, Tryz.ntmps8
 go_wp2_with fail
 go_ret
 exact ⟨rfl, rfl⟩
end Go.Proofs.YtpknmfmpiachkaaGreat
