/- serial's sort: the walk. -/
import Derived.Test.YtpknmfmpiachkaaGreatSer7
import Derived.Test.YtpknmfmpiachkaaGreatCert11
import Derived.Deep.OwnRows
namespace Go.Proofs.YtpknmfmpiachkaaGreat
open Go.RowKit
theorem dropE (vs : List (Int × Int)) : ∀ i, (cellsE vs).drop (i * 2) = cellsE (vs.drop i) := by
 induction vs with
 | nil => intro i; simp [cellsE]
 | cons x r ih =>
   intro i
   cases i with
   | zero => simp
   | succ i =>
     rw [List.drop_succ_cons, ← ih i]
     show ([_, _] ++ cellsE r : List Value).drop _ = _
     rw [show (i + 1) * 2 = 2 + i * 2 by omega, ← List.drop_drop]
     rfl
theorem edge_at {w : World} {a : Option Addr} {n : Nat} {vs : List (Int × Int)} (hr : RowN w a 2 n (cellsE vs)) (hs : vs.length = n) (k : Nat) (hk : k < n) (v : Int × Int) (he : vs[k]? = some v) :
 ∃ b off, a = some ⟨b, off, none⟩ ∧ w.cell? ⟨b, off + k * 2, none⟩ = some (.int .i64 v.1) ∧ w.cell? ⟨b, off + k * 2 + 1, none⟩ = some (.int .i64 v.2) := by
 obtain ⟨b, off, ha, hc⟩ := hr.2 (by omega)
 have hd : (cellsE vs).drop (k * 2) = .int .i64 v.1 :: .int .i64 v.2 :: cellsE (vs.drop (k + 1)) := by
  rw [dropE, List.drop_eq_getElem_cons (show k < vs.length by omega)]
  have : vs[k]'(by omega) = v := (List.getElem?_eq_some_iff.1 he).2
  rw [this]; rfl
 have h0 : (cellsE vs)[k * 2]? = some (.int .i64 v.1) := by
  have : ((cellsE vs).drop (k * 2))[0]? = some (.int .i64 v.1) := by rw [hd]; rfl
  rwa [List.getElem?_drop, Nat.add_zero] at this
 have h1 : (cellsE vs)[k * 2 + 1]? = some (.int .i64 v.2) := by
  have : ((cellsE vs).drop (k * 2))[1]? = some (.int .i64 v.2) := by rw [hd]; rfl
  rwa [List.getElem?_drop] at this
 exact ⟨b, off, ha, hc _ _ h0, by rw [Nat.add_assoc]; exact hc _ _ h1⟩
def EdgeAt (κ : Nat → Nat) (wx : World) (a : Option Addr) (n : Nat) (E : List (Int × Int)) : Prop := RowN wx a 2 n (cellsE E) ∧ ∀ b off, a = some ⟨b, off, none⟩ → 0 < n → κ b = 9
theorem EdgeAt.chg {κ κ' : Nat → Nat} {wx w1 : World} {a : Option Addr} {n : Nat} {E : List (Int × Int)} (h : EdgeAt κ wx a n E) {J : Nat → Prop} (hc : Chg J κ κ' wx w1) (hj : ¬ J 9) : EdgeAt κ' w1 a n E :=
 ⟨h.1.keep fun b off ha hn hb => hc.block b hb (by rw [h.2 b off ha hn]; exact hj), fun b off ha hn => (hc.paint b (h.1.lt (by decide) b off ha hn)).trans (h.2 b off ha hn)⟩
theorem made_list (z : Value) (n : Nat) : madeCells #[z] n = ((List.range n).map fun _ => z).toArray := by
 apply Array.toList_inj.1
 rw [toList_madeCells_one]
 simp [List.map_const']
theorem info_int : (Tryz.prog.info? 3).map (fun i => (i.zero, i.size, i.bytes)) = some (some (.int .i64 0), 1, 8) := by kernel_rfl
theorem info_row64 : (Tryz.prog.info? 41).map (fun i => (i.zero, i.size, i.bytes)) = some (some (.slice none 0 0), 1, 24) := by kernel_rfl
def RetSort (w : World) (h : List DoneV) (e : Ending) (w' : World) : Prop :=
 ∃ (order left : List Int) (ro rl : RowV), e = .returned (.tuple #[ro.val, rl.val]) ∧ order.length = ro.n ∧ left.length = rl.n ∧ RowN w' ro.a 1 ro.n (cellsI order) ∧ RowN w' rl.a 1 rl.n (cellsI left) ∧ ro.n ≤ ro.c ∧ ro.c ≤ maxLen ∧ rl.n ≤ rl.c ∧ rl.c ≤ maxLen ∧ Below w.heap.size w w' ∧ (if rightP h then TopoOut (edgesP h) (h.map DoneV.num) order left else order = [] ∧ left = [])
set_option maxRecDepth 100000 in
set_option maxHeartbeats 25600000 in
theorem sort_any (a : Option Addr) (n cap : Nat) (h : List DoneV) (w : World) (hh : HistAt w a n cap h) :
 Calls Tryz.prog 28 #[.slice a n cap] w (RetSort w h) := by
 have hri := right_any a n cap h w hh
 obtain ⟨RT, hRT⟩ : ∃ RT, RT = rightP h := ⟨_, rfl⟩
 rw [← hRT] at hri
 have HRI := Lib.hid hri
 have HRT := Lib.hid hRT
 have HH := Lib.hid hh
 have hlen := hh.len
 clear hri hRT hh
 cases RT with
 | false =>
   go_enter Tryz.func28, Tryz.ntmps28
   go_wp2_with fail
   refine HRI.out.mono ?_
   rintro e w1 ⟨rfl, hb1⟩
   have HB1 := Lib.hid hb1
   clear hb1
   go_wp2_with fail
   go_ret2
   exact ⟨[], [], ⟨none, 0, 0⟩, ⟨none, 0, 0⟩, rfl, rfl, rfl, RowN.nil _ _ _, RowN.nil _ _ _, Nat.le_refl _, by decide, Nat.le_refl _, by decide, HB1.out, by rw [← HRT.out]; exact ⟨rfl, rfl⟩⟩
 | true =>
   have hpr := rightP_right (fun d hd => (HH.out.ok d hd).words) HRT.out.symm
   have hn64 : n ≤ 64 := by rw [← hlen]; exact hpr.1
   have HLEN := Lib.hid hlen
   have HNB : Hid (∀ d ∈ h, 1 ≤ d.num ∧ d.num ≤ n) := fun d hd => by have := num_bounds HRT.out.symm d hd; rw [hlen] at this; exact this
   have HEB : Hid (∀ e ∈ edgesP h, ∃ t1 t2 : Nat, e = ((t1 : Int), (t2 : Int)) ∧ t1 < n + 1 ∧ t2 < n + 1) := fun e he => by
    have h1 := edge_in e he
    rw [hlen] at h1
    exact ⟨e.1.toNat, e.2.toNat, by obtain ⟨x, y⟩ := e; simp only at h1 ⊢; rw [Int.toNat_of_nonneg (by omega), Int.toNat_of_nonneg (by omega)], by omega, by omega⟩
   have hed := fun W (hb : Below w.heap.size w W) => edges_any a n cap h W (HH.out.below hb)
   obtain ⟨ES, hES⟩ : ∃ ES, ES = edgesP h := ⟨_, rfl⟩
   rw [← hES] at HEB hed
   have hm : ES.length ≤ 4096 := by
    rw [hES]
    unfold edgesP
    rw [← HRT.out, if_pos rfl]
    have h1 := edges_len h h
    rw [hlen] at h1
    have h2 : n * n ≤ 64 * 64 := Nat.mul_le_mul hn64 hn64
    omega
   obtain ⟨m, hmm⟩ : ∃ m, m = ES.length := ⟨_, rfl⟩
   rw [← hmm] at hm
   have HMM := Lib.hid hmm
   have HED := Lib.hid hed
   have HES := Lib.hid hES
   have hmk1 : ∀ W, (Instr.makeSlice 48 (.int .i64 ((n : Int) + 1)) (.int .i64 ((n : Int) + 1))).run Tryz.prog W = .ok (.slice (some ⟨W.heap.size, 0, none⟩) (n + 1) (n + 1)) (W.alloc (.cells (madeCells #[.int .i64 0] (n + 1)) 3)) := fun W => run_make_row' 48 3 (.int .i64 0) 8 Tryz.underlying48 info_int rfl .i64 .i64 (n + 1) (by omega) (by omega) W
   have hmk2 : ∀ W, (Instr.makeSlice 130 (.int .i64 ((n : Int) + 1)) (.int .i64 ((n : Int) + 1))).run Tryz.prog W = .ok (.slice (some ⟨W.heap.size, 0, none⟩) (n + 1) (n + 1)) (W.alloc (.cells (madeCells #[.slice none 0 0] (n + 1)) 41)) := fun W => run_make_row' 130 41 (.slice none 0 0) 24 Tryz.underlying130 info_row64 rfl .i64 .i64 (n + 1) (by omega) (by omega) W
   clear hpr hlen hed hES hmm
   go_enter Tryz.func28, Tryz.ntmps28
   go_wp2_with fail
   refine HRI.out.mono ?_
   rintro e w1 ⟨rfl, hb1⟩
   have HB1 := Lib.hid hb1
   clear hb1 HRI
   go_upto_region 5 with fail
   obtain ⟨Y, hY⟩ : ∃ Y, Y = (((w1.alloc (.cells (madeCells #[.int .i64 0] (n + 1)) 3)).alloc (.cells #[.slice (some ⟨w1.heap.size, 0, none⟩) (n + 1) (n + 1)] 48)).alloc (.cells (madeCells #[.slice none 0 0] (n + 1)) 41)) := ⟨_, rfl⟩
   rw [← hY]
   have hbY : Below w.heap.size w Y := hY ▸ below_alloc (below_alloc (below_alloc HB1.out _) _) _
   have hYA : Y.heap[w1.heap.size]? = some (.cells (madeCells #[.int .i64 0] (n + 1)) 3 (0, 0)) := hY ▸ alloc_keep (alloc_keep (heap_alloc_new w1 _) _) _
   have hYV : Y.heap[w1.heap.size + 1]? = some (.cells #[.slice (some ⟨w1.heap.size, 0, none⟩) (n + 1) (n + 1)] 48 (0, 0)) := hY ▸ alloc_keep (alloc_new1 w1 _ _) _
   have hYB : Y.heap[w1.heap.size + 1 + 1]? = some (.cells (madeCells #[.slice none 0 0] (n + 1)) 41 (0, 0)) := by
    rw [hY]
    have := heap_alloc_new ((w1.alloc (.cells (madeCells #[.int .i64 0] (n + 1)) 3)).alloc (.cells #[.slice (some ⟨w1.heap.size, 0, none⟩) (n + 1) (n + 1)] 48)) (.cells (madeCells #[.slice none 0 0] (n + 1)) 41)
    simpa using this
   rw [made_list] at hYA hYB
   have hw1 := HB1.out.size
   obtain ⟨κ0, hκ0⟩ : ∃ κ0 : Nat → Nat, κ0 = fun g => if g = w1.heap.size + 1 then 1 else if g = w1.heap.size then 2 else if g = w1.heap.size + 1 + 1 then 3 else 0 := ⟨_, rfl⟩
   have hS0 : SortS w (w1.heap.size + 1) w1.heap.size (w1.heap.size + 1 + 1) (n + 1) κ0 Y (fun _ => ⟨none, 0, 0⟩) (fun i => cntE [] [] (i : Int)) (fun i => behE [] (i : Int)) := by
    refine ⟨hbY, fun g hg => ?_, hYV, hYA, hYB, fun i _ => ⟨rfl, World.ownsRow_nil _ _ _ _, fun g h => absurd h (by simp [RowV.val, Value.ownBlock])⟩, ?_, ?_, ?_⟩
    · rw [hκ0]
      show (if g = w1.heap.size + 1 then 1 else if g = w1.heap.size then 2 else if g = w1.heap.size + 1 + 1 then 3 else 0) = 0
      rw [if_neg (by omega), if_neg (by omega), if_neg (by omega)]
    · rw [hκ0]; simp
    · rw [hκ0]; simp
    · rw [hκ0]
      show (if w1.heap.size + 1 + 1 = w1.heap.size + 1 then 1 else if w1.heap.size + 1 + 1 = w1.heap.size then 2 else if w1.heap.size + 1 + 1 = w1.heap.size + 1 + 1 then 3 else 0) = 3
      rw [if_neg (by omega), if_neg (by omega), if_pos rfl]
   have hed := HED.out Y hbY
   obtain ⟨AB, hAB⟩ : ∃ AB, AB = w1.heap.size := ⟨_, rfl⟩
   rw [← hAB] at hS0 ⊢
   obtain ⟨BB, hBB⟩ : ∃ BB, BB = AB + 1 + 1 := ⟨_, rfl⟩
   obtain ⟨V, hV⟩ : ∃ V, V = AB + 1 := ⟨_, rfl⟩
   have hABV : AB < V ∧ V < BB ∧ w.heap.size ≤ AB := by omega
   rw [← hBB, ← hV] at hS0 ⊢
   have HED2 := Lib.hid hed
   have HS0 := Lib.hid hS0
   have HBY := Lib.hid hbY
   clear hY hbY hYA hYV hYB hw1 hκ0 hS0 hed hAB hBB hV hmk1 hmk2 HED HB1
   go_wp2_with fail
   refine HED2.out.mono ?_
   rintro e w2 ⟨ae, ce, rfl, hown2, hb2⟩
   rw [← HMM.out] at hown2 ⊢
   have hE2 : EdgeAt (tint Y κ0 9) w2 ae m ES := ⟨RowN.of_own hown2, fun b off ha _ => by subst ha; exact tint_new (hown2.lt b rfl).1⟩
   have hS2 := HS0.out.chg (chg_tint (κ := κ0) (i := 9) hb2) (fun _ h => h.elim)
   have HE2 := Lib.hid hE2
   have HS2 := Lib.hid hS2
   clear hown2 hb2 hE2 hS2 HED2 HS0 HBY
   go_wp2_with fail
   go_loopg [28] m (fun g s28 wx => ∃ (k : Nat) (κ : Nat → Nat) (rs : Nat → RowV), s28 = .int .i64 k ∧ k ≤ m ∧ g = m - k ∧ Hid (SortS w V AB BB (n + 1) κ wx rs (fun i => cntE (ES.take k) [] (i : Int)) (fun i => behE (ES.take k) (i : Int))) ∧ Hid (EdgeAt κ wx ae m ES))
   case atStart => exact ⟨0, _, _, rfl, Nat.zero_le _, rfl, HS2.out, HE2.out⟩
   case round =>
    obtain ⟨k, κ, rs, rfl, hk, rfl, HS, HE⟩ := hrel
    have hk0 : (0 : Int) ≤ (k : Int) := by omega
    have hnat : ((k : Int)).toNat = k := by omega
    clear HS2 HE2
    by_cases hlt : k < m
    · obtain ⟨e, he⟩ : ∃ e, ES[k]? = some e := ⟨_, List.getElem?_eq_getElem (by rw [← HMM.out]; exact hlt)⟩
      obtain ⟨t1, t2, rfl, ht1, ht2⟩ := HEB.out e (List.mem_of_getElem? he)
      obtain ⟨b, off, rfl, e0, e1⟩ := edge_at HE.out.1 HMM.out.symm k hlt _ he
      simp only at e0 e1
      have hkn : (k : Int) < (m : Int) := by omega
      have htk := take_snoc he
      have hc1 := upd_cnt (l := ES.take k) (e := ((t1 : Int), (t2 : Int))) (t := t2) rfl
      have hc2 := upd_beh (l := ES.take k) (e := ((t1 : Int), (t2 : Int))) (t := t1) rfl
      rw [← htk] at hc1 hc2
      have hle := cntE_le (ES.take k) [] (t2 : Int)
      have hge := cntE_nonneg (ES.take k) [] (t2 : Int)
      have hbl := behE_len (ES.take k) (t1 : Int)
      rw [List.length_take] at hle hbl
      obtain ⟨CN, hCN⟩ : ∃ CN, CN = cntE (ES.take k) [] (t2 : Int) := ⟨_, rfl⟩
      rw [← hCN] at hle hge hc1
      obtain ⟨XB, hXB⟩ : ∃ XB, XB = wr.heap.size := ⟨_, rfl⟩
      obtain ⟨X, hX⟩ : ∃ X, X = wr.alloc (.cells #[.int .i64 (t1 : Int), .int .i64 (t2 : Int)] 134) := ⟨_, rfl⟩
      have hbX : Below wr.heap.size wr X := hX ▸ below_alloc (Below.refl _ _) _
      have hXc : X.heap[XB]? = some (.cells #[.int .i64 (t1 : Int), .int .i64 (t2 : Int)] 134 (0, 0)) := hXB ▸ hX ▸ heap_alloc_new wr _
      have hcX := chg_tint (κ := κ) (i := 8) hbX
      obtain ⟨κ1, hκ1⟩ : ∃ κ1, κ1 = tint wr κ 8 := ⟨_, rfl⟩
      rw [← hκ1] at hcX
      have hcol : κ1 XB = 8 := by rw [hκ1, hXB]; exact tint_new (Nat.le_refl _)
      have hSX := HS.out.chg hcX (fun _ h => h.elim)
      have hEX := HE.out.chg hcX id
      obtain ⟨v0, v1, _⟩ := two_cells hXc
      have vV := hSX.cellV
      obtain ⟨vA, vF⟩ := hSX.cellA ht2
      rw [← hCN] at vA
      have ht2I : (t2 : Int) < (n : Int) + 1 := by omega
      have ht1I : (t1 : Int) < (n : Int) + 1 := by omega
      have ht20 : (0 : Int) ≤ (t2 : Int) := by omega
      have ht10 : (0 : Int) ≤ (t1 : Int) := by omega
      have hn2 : ((t2 : Int)).toNat = t2 := by omega
      have hn1 : ((t1 : Int)).toNat = t1 := by omega
      obtain ⟨hS3, hcA⟩ := hSX.setA t2 (CN + 1)
      have HX := Lib.hid hX
      have HXS := Lib.hid hXB
      obtain ⟨W4, hW4⟩ : ∃ W4, W4 = X.setCell ⟨AB, t2, none⟩ (.int .i64 (CN + 1)) := ⟨_, rfl⟩
      rw [← hW4] at hS3 hcA
      have hX4 : W4.heap[XB]? = some (.cells #[.int .i64 (t1 : Int), .int .i64 (t2 : Int)] 134 (0, 0)) := (hcA.block XB (lt_of_block hXc) (by rw [hcol]; omega)).trans hXc
      have hE4 := hEX.chg hcA (by omega)
      have HW4 := Lib.hid hW4
      have HC1 := Lib.hid hc1
      have HC2 := Lib.hid hc2
      have HS3 := Lib.hid hS3
      have HX4 := Lib.hid hX4
      have HE4 := Lib.hid hE4
      have HCOL := Lib.hid hcol
      have HCN := Lib.hid hCN
      clear hX hXB hbX hXc hcX hκ1 hcol hSX hEX hS3 hcA hW4 hX4 hE4 hc1 hc2 htk he hCN
      go_upto_region 8 with fail
      rw [← HX.out, ← HXS.out]
      clear e0 e1 HX HXS
      go_upto_region 9 with fail
      rw [← HW4.out]
      clear HW4 v0 v1 vV vA vF HCN
      obtain ⟨vB, vG⟩ := HS3.out.cellB ht1
      have hown := HS3.out.own t1 ht1
      obtain ⟨i0, hi, hz0, hz1, hz2⟩ := info_parts info_int64
      obtain ⟨ra, rn, rc, hrs⟩ : ∃ ra rn rc, rs t1 = ⟨ra, rn, rc⟩ := ⟨_, _, _, rfl⟩
      rw [hrs] at vB hown
      dsimp only [RowV.val] at vB hown
      have hrn : rn ≤ 4096 := by have := hown.1; omega
      have HRS := Lib.hid hrs
      have HOWN := Lib.hid hown
      have hW4w := HS3.out.below.size
      have hWB := lt_of_block HS3.out.rows
      clear hrs hown
      have hkeep : ∀ Zw : World, Zw.heap[XB]? = some (.cells #[.int .i64 (t1 : Int), .int .i64 (t2 : Int)] 134 (0, 0)) → (fun w' : World => w'.cell? ⟨XB, 0, none⟩ = some (.int .i64 (t1 : Int)) ∧ w'.cell? ⟨XB, 1, none⟩ = some (.int .i64 (t2 : Int))) Zw := fun Zw hX => by
       obtain ⟨q0, q1, _⟩ := two_cells hX
       exact ⟨q0, q1⟩
      have HKEEP := Lib.hid hkeep
      clear hkeep
      refine wp_region_noPanic ?_
      refine wp_region_held_drew (S := (fun w' => w'.cell? ⟨XB, 0, none⟩ = some (.int .i64 (t1 : Int)) ∧ w'.cell? ⟨XB, 1, none⟩ = some (.int .i64 (t2 : Int)))) (by kernel_rfl) ?_ (fun hHeld0 => ?_)
      · first | exact HKEEP.out _ HX4.out | exact HKEEP.out _ (alloc_keep (w := W4.drew) HX4.out _) | exact HKEEP.out _ HXY.out | exact HKEEP.out _ HX6.out | exact HKEEP.out _ (set_far HX6.out (fun e => by have h1 := HCOL.out; rw [e, HBC.out] at h1; omega))
      refine wu 0 rfl ?_
      refine wu 1 rfl ?_
      refine wu 2 rfl ?_
      refine wu 3 rfl ?_
      refine wu 4 rfl ?_
      refine wu 5 rfl ?_
      refine wu 6 rfl ?_
      refine wu 8 rfl ?_
      refine wu 9 rfl ?_
      refine wz 7 10 rfl (fun K hK => ?_) rfl fun K hK => ?_
      · skip
        go_simp
        refine hK.out _ _ ?_ (fun hHeld1 => ?_)
        · first | exact HKEEP.out _ HX4.out | exact HKEEP.out _ (alloc_keep (w := W4.drew) HX4.out _) | exact HKEEP.out _ HXY.out | exact HKEEP.out _ HX6.out | exact HKEEP.out _ (set_far HX6.out (fun e => by have h1 := HCOL.out; rw [e, HBC.out] at h1; omega))
        clear hK K hHeld0
        try simp only [Act.put, List.setIfInBounds_toArray, List.set]
        refine wy 10 rfl fun K hK => ?_
        go_simp
        refine hK.out _ _ ?_ (fun hHeld2 => ?_)
        · first | exact HKEEP.out _ HX4.out | exact HKEEP.out _ (alloc_keep (w := W4.drew) HX4.out _) | exact HKEEP.out _ HXY.out | exact HKEEP.out _ HX6.out | exact HKEEP.out _ (set_far HX6.out (fun e => by have h1 := HCOL.out; rw [e, HBC.out] at h1; omega))
        clear hK K hHeld1
        try simp only [Act.put, List.setIfInBounds_toArray, List.set]
        obtain ⟨Yb, hYb⟩ : ∃ Yb, Yb = (W4.alloc (.cells #[.int .i64 (t2 : Int)] 2)).drew := ⟨_, rfl⟩
        have HBYb : Hid (Below W4.heap.size W4 Yb) := hYb ▸ (below_alloc (Below.refl _ _) _).drew
        have HXY : Hid (Yb.heap[XB]? = _) := (HBYb.out.block _ (lt_of_block HX4.out)).trans HX4.out
        have HSY := Lib.hid (HS3.out.sub HBYb.out)
        obtain ⟨vB2, vG2⟩ := HSY.out.cellB ht1
        rw [HRS.out] at vB2
        dsimp only [RowV.val] at vB2
        have hownY := own_below HOWN.out.2.1 HBYb.out (Nat.le_refl _)
        have hnews : 0 < 1 → ∃ ad, (some ⟨W4.heap.size, 0, none⟩ : Option Addr) = some ad ∧ ∀ j u, (cellsI [(t2 : Int)])[j]? = some u → Yb.cell? (ad.add j) = some u := by rw [hYb]; exact (RowN.newH W4 _ _ 1 1 _ _ rfl rfl rfl).news
        obtain ⟨ao, cp, w6, hq, hown6, hg6, hat6⟩ := run_append_row (P := Tryz.prog) Yb w.heap.size 41 41 2 i0 _ 1 8 Tryz.underlying41 hi hz0 hz1 hz2 rfl (by decide) ra rn rc _ hownY (some ⟨W4.heap.size, 0, none⟩) 1 1 _ rfl hnews (fun h => by cases h) (cellsI_one _) (by simp only [maxLen]; omega) (by omega) (Nat.le_trans hW4w HBYb.out.size)
        have HBC : Hid (κ1 BB = 3) := HS3.out.colB
        have HX6 : Hid (w6.heap[XB]? = _) := (hg6.block _ (lt_of_block HXY.out) (fun e => by have h1 := HOWN.out.2.2 XB e.symm; rw [HCOL.out] at h1; omega)).trans HXY.out
        have HB6 : w6.heap[BB]? = _ := (hg6.block _ (lt_of_block HSY.out.rows) (fun e => by have h1 := HOWN.out.2.2 BB e.symm; rw [HBC.out] at h1; omega)).trans HSY.out.rows
        have vB6 : w6.cell? ⟨BB, t1, none⟩ = some (.slice ra rn rc) := by simp only [World.cell?, HB6]; simp [ht1, HRS.out, RowV.val]
        have vG6 : w6.frozen? ⟨BB, t1, none⟩ = false := by simp [World.frozen?, HB6]
        have HPUT := Lib.hid (HS3.out.setB ht1 (r := ⟨ao, rn + 1, cp⟩) (x := (t2 : Int)) HBYb.out (by rw [HRS.out]) hown6 (by rw [HRS.out]; exact hg6) (by rw [HRS.out]; exact hat6))
        rw [← hYb]
        clear hownY hnews hown6 hg6 hat6 hYb HB6
        refine wy 11 rfl fun K hK => ?_
        refine step_append_run rfl (.tmp 46) (.tmp 49) 41 rfl (by simp [Act.eval]) (by simp [Act.eval]) hq ?_
        refine hK.out _ _ ?_ (fun hHeld3 => ?_)
        · first | exact HKEEP.out _ HX4.out | exact HKEEP.out _ (alloc_keep (w := W4.drew) HX4.out _) | exact HKEEP.out _ HXY.out | exact HKEEP.out _ HX6.out | exact HKEEP.out _ (set_far HX6.out (fun e => by have h1 := HCOL.out; rw [e, HBC.out] at h1; omega))
        clear hK K hHeld2
        try simp only [Act.put, List.setIfInBounds_toArray]
        refine wu 12 rfl ?_
        refine wy 13 rfl fun K hK => ?_
        go_simp
        refine hK.out _ _ ?_ (fun hHeld4 => ?_)
        · first | exact HKEEP.out _ HX4.out | exact HKEEP.out _ (alloc_keep (w := W4.drew) HX4.out _) | exact HKEEP.out _ HXY.out | exact HKEEP.out _ HX6.out | exact HKEEP.out _ (set_far HX6.out (fun e => by have h1 := HCOL.out; rw [e, HBC.out] at h1; omega))
        clear hK K hHeld3
        try simp only [Act.put, List.setIfInBounds_toArray, List.set]
        refine wpAnyH_done (by kernel_rfl) ?_ _
        refine NoPanic.normal ?_
        go_wp2_with fail
        obtain ⟨κ2, hc2, hS6⟩ := HPUT.out
        rw [HC2.out, HC1.out] at hS6
        have hE6 := HE4.out.chg hc2 (by omega)
        go_roundg (m - (k + 1))
        case measure => omega
        case rel => exact ⟨k + 1, κ2, _, by go_num, by omega, rfl, hS6, hE6⟩
      · skip
        go_simp
        refine hK.out _ _ ?_ (fun hHeld5 => ?_)
        · first | exact HKEEP.out _ HX4.out | exact HKEEP.out _ (alloc_keep (w := W4.drew) HX4.out _) | exact HKEEP.out _ HXY.out | exact HKEEP.out _ HX6.out | exact HKEEP.out _ (set_far HX6.out (fun e => by have h1 := HCOL.out; rw [e, HBC.out] at h1; omega))
        clear hK K hHeld0
        try simp only [Act.put, List.setIfInBounds_toArray, List.set]
        obtain ⟨Yb, hYb⟩ : ∃ Yb, Yb = (W4.alloc (.cells #[.int .i64 (t2 : Int)] 2)).drew := ⟨_, rfl⟩
        have HBYb : Hid (Below W4.heap.size W4 Yb) := hYb ▸ (below_alloc (Below.refl _ _) _).drew
        have HXY : Hid (Yb.heap[XB]? = _) := (HBYb.out.block _ (lt_of_block HX4.out)).trans HX4.out
        have HSY := Lib.hid (HS3.out.sub HBYb.out)
        obtain ⟨vB2, vG2⟩ := HSY.out.cellB ht1
        rw [HRS.out] at vB2
        dsimp only [RowV.val] at vB2
        have hownY := own_below HOWN.out.2.1 HBYb.out (Nat.le_refl _)
        have hnews : 0 < 1 → ∃ ad, (some ⟨W4.heap.size, 0, none⟩ : Option Addr) = some ad ∧ ∀ j u, (cellsI [(t2 : Int)])[j]? = some u → Yb.cell? (ad.add j) = some u := by rw [hYb]; exact (RowN.newH W4 _ _ 1 1 _ _ rfl rfl rfl).news
        obtain ⟨ao, cp, w6, hq, hown6, hg6, hat6⟩ := run_append_row (P := Tryz.prog) Yb w.heap.size 41 41 2 i0 _ 1 8 Tryz.underlying41 hi hz0 hz1 hz2 rfl (by decide) ra rn rc _ hownY (some ⟨W4.heap.size, 0, none⟩) 1 1 _ rfl hnews (fun h => by cases h) (cellsI_one _) (by simp only [maxLen]; omega) (by omega) (Nat.le_trans hW4w HBYb.out.size)
        have HBC : Hid (κ1 BB = 3) := HS3.out.colB
        have HX6 : Hid (w6.heap[XB]? = _) := (hg6.block _ (lt_of_block HXY.out) (fun e => by have h1 := HOWN.out.2.2 XB e.symm; rw [HCOL.out] at h1; omega)).trans HXY.out
        have HB6 : w6.heap[BB]? = _ := (hg6.block _ (lt_of_block HSY.out.rows) (fun e => by have h1 := HOWN.out.2.2 BB e.symm; rw [HBC.out] at h1; omega)).trans HSY.out.rows
        have vB6 : w6.cell? ⟨BB, t1, none⟩ = some (.slice ra rn rc) := by simp only [World.cell?, HB6]; simp [ht1, HRS.out, RowV.val]
        have vG6 : w6.frozen? ⟨BB, t1, none⟩ = false := by simp [World.frozen?, HB6]
        have HPUT := Lib.hid (HS3.out.setB ht1 (r := ⟨ao, rn + 1, cp⟩) (x := (t2 : Int)) HBYb.out (by rw [HRS.out]) hown6 (by rw [HRS.out]; exact hg6) (by rw [HRS.out]; exact hat6))
        rw [← hYb]
        clear hownY hnews hown6 hg6 hat6 hYb HB6
        refine wy 7 rfl fun K hK => ?_
        go_simp
        refine hK.out _ _ ?_ (fun hHeld6 => ?_)
        · first | exact HKEEP.out _ HX4.out | exact HKEEP.out _ (alloc_keep (w := W4.drew) HX4.out _) | exact HKEEP.out _ HXY.out | exact HKEEP.out _ HX6.out | exact HKEEP.out _ (set_far HX6.out (fun e => by have h1 := HCOL.out; rw [e, HBC.out] at h1; omega))
        clear hK K hHeld5
        try simp only [Act.put, List.setIfInBounds_toArray, List.set]
        refine wy 11 rfl fun K hK => ?_
        refine step_append_run rfl (.tmp 46) (.tmp 49) 41 rfl (by simp [Act.eval]) (by simp [Act.eval]) hq ?_
        refine hK.out _ _ ?_ (fun hHeld7 => ?_)
        · first | exact HKEEP.out _ HX4.out | exact HKEEP.out _ (alloc_keep (w := W4.drew) HX4.out _) | exact HKEEP.out _ HXY.out | exact HKEEP.out _ HX6.out | exact HKEEP.out _ (set_far HX6.out (fun e => by have h1 := HCOL.out; rw [e, HBC.out] at h1; omega))
        clear hK K hHeld6
        try simp only [Act.put, List.setIfInBounds_toArray]
        refine wu 12 rfl ?_
        refine wy 13 rfl fun K hK => ?_
        go_simp
        refine hK.out _ _ ?_ (fun hHeld8 => ?_)
        · first | exact HKEEP.out _ HX4.out | exact HKEEP.out _ (alloc_keep (w := W4.drew) HX4.out _) | exact HKEEP.out _ HXY.out | exact HKEEP.out _ HX6.out | exact HKEEP.out _ (set_far HX6.out (fun e => by have h1 := HCOL.out; rw [e, HBC.out] at h1; omega))
        clear hK K hHeld7
        try simp only [Act.put, List.setIfInBounds_toArray, List.set]
        refine wpAnyH_done (by kernel_rfl) ?_ _
        refine NoPanic.normal ?_
        go_wp2_with fail
        obtain ⟨κ2, hc2, hS6⟩ := HPUT.out
        rw [HC2.out, HC1.out] at hS6
        have hE6 := HE4.out.chg hc2 (by omega)
        go_roundg (m - (k + 1))
        case measure => omega
        case rel => exact ⟨k + 1, κ2, _, by go_num, by omega, rfl, hS6, hE6⟩
    · obtain rfl : k = m := by omega
      have hS := HS.out
      rw [show ES.take k = ES from List.take_of_length_le (by rw [← HMM.out]; exact Nat.le_refl _)] at hS
      have HS5 := Lib.hid hS
      clear hS HS HE
      obtain ⟨z1, hz1⟩ : ∃ z1, z1 = wr := ⟨_, rfl⟩
      rw [← hz1] at HS5 ⊢
      clear hz1
      go_wp2_with fail
      go_loopg [3, 55] n (fun g s3 s55 wx => ∃ (k : Nat) (κ : Nat → Nat) (la : Option Addr) (lc : Nat), s55 = .int .i64 k ∧ k ≤ n ∧ g = n - k ∧ s3 = .slice la k lc ∧ Hid (SortS w V AB BB (n + 1) κ wx rs (fun i => cntE ES [] (i : Int)) (fun i => behE ES (i : Int))) ∧ Hid (RowAt w κ wx 4 ⟨la, k, lc⟩ ((h.take k).map DoneV.num)))
      case atStart => exact ⟨0, κ, none, 0, rfl, Nat.zero_le _, rfl, rfl, HS5.out, ⟨rfl, World.ownsRow_nil _ _ _ _, fun g h => absurd h (by simp [RowV.val, Value.ownBlock])⟩⟩
      case round =>
       obtain ⟨k2, κ2, la, lc, rfl, hk2, rfl, rfl, HS, HL⟩ := hrel
       have hk20 : (0 : Int) ≤ (k2 : Int) := by omega
       have hnat2 : ((k2 : Int)).toNat = k2 := by omega
       clear HS5
       by_cases hlt2 : k2 < n
       · obtain ⟨d, hd⟩ : ∃ d, h[k2]? = some d := ⟨_, List.getElem?_eq_getElem (by rw [HLEN.out]; exact hlt2)⟩
         obtain ⟨b, off, hra, e0, e1, e2, e3, e4, e5, e6⟩ := done_at (HH.out.below HS.out.below).row HLEN.out k2 hlt2 d hd
         subst hra
         have hkn : (k2 : Int) < (n : Int) := by omega
         have hts : (h.take (k2 + 1)).map DoneV.num = (h.take k2).map DoneV.num ++ [d.num] := by rw [take_snoc hd, List.map_append]; rfl
         obtain ⟨X, hX⟩ : ∃ X, X = wr.alloc (.cells d.cells.toArray 40) := ⟨_, rfl⟩
         have hbX : Below wr.heap.size wr X := hX ▸ below_alloc (Below.refl _ _) _
         have hXc : X.heap[wr.heap.size]? = some (.cells d.cells.toArray 40 (0, 0)) := hX ▸ heap_alloc_new wr _
         have d0 := (done_block hXc).1
         have HX := Lib.hid hX
         have HBX := Lib.hid hbX
         have HSX := Lib.hid (HS.out.sub hbX)
         have HLX := Lib.hid (HL.out.sub hbX)
         have HTS := Lib.hid hts
         have hXw : w.heap.size ≤ X.heap.size := (HS.out.sub hbX).below.size
         clear hd hts hX hbX hXc
         go_upto_region 14 with fail
         rw [show wr.alloc (.cells #[.int .i64 d.num, .int .i64 d.m.s.session, .int .i64 d.m.s.seq, .int .i64 d.m.s.snap, .slice d.m.ra d.m.s.reads.length d.m.rc, .slice d.m.sa d.m.s.spans.length d.m.sc, .slice d.m.wa d.m.s.writes.length d.m.wc] 40) = X from HX.out.symm]
         clear e0 e1 e2 e3 e4 e5 e6 HX
         go_wp2_with (at_builtin; refine wpList_appendI rfl (.tmp 59) (.tmp 62) rfl w.heap.size la k2 lc (cellsI ((h.take k2).map DoneV.num)) rfl (own_keep HLX.out.2.1 fun g _ hl => alloc_far rfl hl) (some ⟨X.heap.size, 0, none⟩) 1 1 (cellsI [d.num]) rfl (RowN.newH _ _ _ 1 1 _ _ rfl rfl rfl) (fun h => by cases h) (cellsI_one _) (by omega) (by simp; omega) (k2 + 1) rfl ?_; intro ao3 cp3 w4 hown4 hg4 hat4)
         have hbZ : Below X.heap.size X (X.alloc (.cells #[.int .i64 d.num] 2)) := below_alloc (Below.refl _ _) _
         obtain ⟨hc4, hr4⟩ := (HLX.out.sub hbZ).push (r' := ⟨ao3, k2 + 1, cp3⟩) (x := d.num) rfl hown4 hg4 hat4
         have hS4 := (HSX.out.sub hbZ).chg hc4 (fun i hi => by omega)
         go_roundg (n - (k2 + 1))
         case measure => omega
         case rel => exact ⟨k2 + 1, _, ao3, cp3, by go_num, by omega, rfl, rfl, hS4, by show RowAt _ _ _ _ _ _; rw [HTS.out]; exact hr4⟩
       · obtain rfl : k2 = n := by omega
         obtain ⟨NUMS, hNU⟩ : ∃ NUMS, NUMS = h.map DoneV.num := ⟨_, rfl⟩
         have hL := HL.out
         rw [show h.take k2 = h from List.take_of_length_le (by rw [HLEN.out]; exact Nat.le_refl _), ← hNU] at hL
         have HNI : Hid (∀ x ∈ NUMS, ∃ t : Nat, x = (t : Int) ∧ t < k2 + 1) := fun x hx => by
          rw [hNU] at hx
          obtain ⟨d, hd, rfl⟩ := List.mem_map.1 hx
          have := HNB.out d hd
          exact ⟨d.num.toNat, by omega, by omega⟩
         have HND : Hid NUMS.Nodup := by show List.Nodup _; rw [hNU]; exact nums_nodup HRT.out.symm
         have hnl : NUMS.length = k2 := by rw [hNU, List.length_map, HLEN.out]
         have HL5 := Lib.hid hL
         have HNU := Lib.hid hNU
         have HNL := Lib.hid hnl
         clear hL hNU HL hnl
         obtain ⟨z2, hz2⟩ : ∃ z2, z2 = wr := ⟨_, rfl⟩
         rw [← hz2] at HS HL5 ⊢
         clear hz2
         have eg : ∀ args w, (callFunc 65 args).run Tryz.prog w = .ok (.enter 65 args) w := enters_of Tryz.func65 (by kernel_rfl) rfl
         have HEG := Lib.hid eg
         clear eg
         go_wp2_with fail
         go_loopg [2, 3] k2 (fun g s2 s3 wx => ∃ (κ : Nat → Nat) (oa : Option Addr) (oc : Nat) (la : Option Addr) (lc : Nat) (order left : List Int), s2 = .slice oa order.length oc ∧ s3 = .slice la left.length lc ∧ g = left.length ∧ order.length + left.length = k2 ∧ Hid (SortS w V AB BB (k2 + 1) κ wx rs (fun i => cntE ES order (i : Int)) (fun i => behE ES (i : Int))) ∧ Hid (RowAt w κ wx 5 ⟨oa, order.length, oc⟩ order) ∧ Hid (RowAt w κ wx 4 ⟨la, left.length, lc⟩ left) ∧ Hid ((order ++ left).Perm NUMS) ∧ Hid (Ordered ES order))
         case atStart => exact ⟨κ2, none, 0, la, lc, [], NUMS, rfl, by rw [HNL.out], HNL.out.symm, by rw [HNL.out]; simp, HS.out, ⟨rfl, World.ownsRow_nil _ _ _ _, fun g h => absurd h (by simp [RowV.val, Value.ownBlock])⟩, by show RowAt _ _ _ _ _ _; rw [HNL.out]; exact HL5.out, List.Perm.refl _, fun pre t post he => by simp at he⟩
         case round =>
          obtain ⟨κ3, oa, oc, la3, lc3, order, left, rfl, rfl, rfl, hsum, HS3, HO3, HL3, HP3, HOR3⟩ := hrel
          have hidx := indexI_any 65 #[.pointer (some ⟨V, 0, none⟩)] (fun x => decide (cntE ES order x = 0)) left la3 left.length lc3 wr (RowN.of_own HL3.out.2.1) rfl (by omega) HEG.out (fun x hx W hW => by
           obtain ⟨t, rfl, ht⟩ := HNI.out x (HP3.out.mem_iff.1 (List.mem_append_right _ hx))
           exact topoFn_any (HS3.out.sub hW) t ht)
          have HIX := Lib.hid hidx
          have hcas := idxOf_cases (fun x => decide (cntE ES order x = 0)) left
          obtain ⟨IX, hIX⟩ : ∃ IX, IX = idxOf (fun x => decide (cntE ES order x = 0)) left := ⟨_, rfl⟩
          rw [← hIX] at HIX hcas
          clear hidx hIX
          go_wp2_with fail
          refine HIX.out.mono ?_
          rintro e w3 ⟨rfl, hb3⟩
          rcases hcas with ⟨rfl, hno⟩ | ⟨i, x, rfl, hx, hpx⟩
          · have hst : TopoOut ES NUMS order left := ⟨HP3.out, HOR3.out, fun x hx => cntE_some (by have := hno x hx; simpa using this)⟩
            have hb := (HS3.out.sub hb3).below
            have hO := HO3.out.sub hb3
            have hL := HL3.out.sub hb3
            have hco := own_cap hO.2.1
            have hcl := own_cap hL.2.1
            have HFIN : Hid (RetSort w h (.returned (.tuple #[.slice oa order.length oc, .slice la3 left.length lc3])) w3) := ⟨order, left, ⟨oa, order.length, oc⟩, ⟨la3, left.length, lc3⟩, rfl, rfl, rfl, RowN.of_own hO.2.1, RowN.of_own hL.2.1, hco.1, hco.2.1, hcl.1, hcl.2.1, hb, by rw [← HRT.out, ← HES.out, ← HNU.out]; exact hst⟩
            clear hst hb hO hL hco hcl hno hb3
            go_wp2_with fail
            go_ret2
            exact HFIN.out
          · have hil : i < left.length := (List.getElem?_eq_some_iff.1 hx).1
            obtain ⟨t, rfl, ht⟩ := HNI.out x (HP3.out.mem_iff.1 (List.mem_append_right _ (List.mem_of_getElem? hx)))
            have hz : cntE ES order (t : Int) = 0 := by simpa using hpx
            have hS4 := HS3.out.sub hb3
            have hO4 := HO3.out.sub hb3
            have hL4 := HL3.out.sub hb3
            obtain ⟨g, rfl⟩ : ∃ g, la3 = some ⟨g, 0, none⟩ := by
             rcases hL4.2.1.2 with ⟨_, h0⟩ | ⟨g, cp, cur, h1, _⟩
             · simp only at h0; omega
             · injection h1 with h1 _ _
               exact ⟨g, h1⟩
            obtain ⟨b, off, hbo, e0⟩ := int_at (RowN.of_own hL4.2.1) i hil _ hx
            simp only [Option.some.injEq, Addr.mk.injEq, and_true] at hbo
            obtain ⟨rfl, rfl⟩ := hbo
            rw [Nat.zero_add] at e0
            have hw3 := hS4.below.size
            have HS4 := Lib.hid hS4
            have HO4 := Lib.hid hO4
            have HL4 := Lib.hid hL4
            have HZ := Lib.hid hz
            have HX := Lib.hid hx
            have hiI : (i : Int) < (left.length : Int) := by omega
            have hi0 : (0 : Int) ≤ (i : Int) := by omega
            have hinat : ((i : Int)).toNat = i := by omega
            have hnneg : ¬ (i : Int) < 0 := by omega
            clear hx hpx hS4 hO4 hL4 hz hb3
            go_wp2_with (at_builtin; refine wpList_appendI rfl (.tmp 76) (.tmp 78) rfl w.heap.size oa order.length oc (cellsI order) rfl (own_keep HO4.out.2.1 fun g _ hl => alloc_far rfl hl) (some ⟨w3.heap.size, 0, none⟩) 1 1 (cellsI [(t : Int)]) rfl (RowN.newH _ _ _ 1 1 _ _ rfl rfl rfl) (fun h => by cases h) (cellsI_one _) (by omega) (by simp; omega) (order.length + 1) rfl ?_; intro ao4 cp4 w4 hown4 hg4 hat4)
            have hbZ : Below w3.heap.size w3 (w3.alloc (.cells #[.int .i64 (t : Int)] 2)) := below_alloc (Below.refl _ _) _
            obtain ⟨hc4, hr4⟩ := (HO4.out.sub hbZ).push (r' := ⟨ao4, order.length + 1, cp4⟩) (x := (t : Int)) rfl hown4 hg4 hat4
            have hS5 := (HS4.out.sub hbZ).chg hc4 (fun i hi => by omega)
            have hL5 := (HL4.out.sub hbZ).chg hc4 (by omega)
            obtain ⟨κ4, hκ4⟩ : ∃ κ4, κ4 = tint (w3.alloc (.cells #[.int .i64 (t : Int)] 2)) κ3 5 := ⟨_, rfl⟩
            rw [← hκ4] at hr4 hS5 hL5
            have HR4 := Lib.hid hr4
            have HS5 := Lib.hid hS5
            have HL5 := Lib.hid hL5
            clear hbZ hc4 hr4 hS5 hL5 hκ4 hown4 hg4 hat4 e0
            refine (delI2_any w.heap.size g left.length lc3 i left rfl hil (by omega) w4 HL5.out.2.1).mono ?_
            rintro e w5 ⟨rfl, hown5, hg5⟩
            have hel : (left.eraseIdx i).length = left.length - 1 := by rw [List.length_eraseIdx, if_pos hil]
            have hc5 : Chg (· = 4) κ4 κ4 w4 w5 := Chg.of_grown hg5 (HL5.out.2.2 g rfl)
            have hS6 := HS5.out.chg hc5 (fun i hi => by omega)
            have hO6 := HR4.out.chg hc5 (by omega)
            have hL6 : RowAt w κ4 w5 4 ⟨some ⟨g, 0, none⟩, left.length - 1, lc3⟩ (left.eraseIdx i) := ⟨hel, hown5, fun g' h' => by
             have e1 : g = g' := Option.some.inj h'
             rw [← e1]
             exact HL5.out.2.2 g rfl⟩
            have hfresh := topo_fresh HP3.out HND.out HX.out
            have hnext := fun y => cntE_next ES order (t : Int) y hfresh
            have hperm := topo_next HP3.out HX.out
            have hord := ordered_snoc HOR3.out HZ.out
            obtain ⟨vB, _⟩ := hS6.cellB ht
            obtain ⟨ra, rn, rc, hrs⟩ : ∃ ra rn rc, rs t = ⟨ra, rn, rc⟩ := ⟨_, _, _, rfl⟩
            rw [hrs] at vB
            dsimp only [RowV.val] at vB
            have hbl : (behE ES (t : Int)).length = rn := by have := (hS6.own t ht).1; rw [hrs] at this; exact this
            have hrn : rn ≤ 4096 := by have := behE_len ES (t : Int); have := HMM.out; omega
            have htI : (t : Int) < (k2 : Int) + 1 := by omega
            have ht0 : (0 : Int) ≤ (t : Int) := by omega
            have htn : ((t : Int)).toNat = t := by omega
            have HS6 := Lib.hid hS6
            have HO6 := Lib.hid hO6
            have HL6 := Lib.hid hL6
            have HNEXT := Lib.hid hnext
            have HPERM := Lib.hid hperm
            have HORD := Lib.hid hord
            have HRS := Lib.hid hrs
            have HBL := Lib.hid hbl
            have HEL := Lib.hid hel
            clear hown5 hg5 hel hc5 hS6 hO6 hL6 hfresh hnext hperm hord hrs hbl HS4 HO4 HL4 HS5 HL5 HR4 HZ HX HS3 HO3 HL3 HP3 HOR3
            go_wp2_with fail
            go_loopg [90] rn (fun g' s90 wx => ∃ j : Nat, s90 = .int .i64 j ∧ j ≤ rn ∧ g' = rn - j ∧ Hid (SortS w V AB BB (k2 + 1) κ4 wx rs (fun i => cntE ES order (i : Int) - ((((behE ES (t : Int)).take j).count (i : Int) : Nat) : Int)) (fun i => behE ES (i : Int))) ∧ Hid (RowAt w κ4 wx 5 ⟨ao4, order.length + 1, cp4⟩ (order ++ [(t : Int)])) ∧ Hid (RowAt w κ4 wx 4 ⟨some ⟨g, 0, none⟩, left.length - 1, lc3⟩ (left.eraseIdx i)))
            case atStart => exact ⟨0, rfl, Nat.zero_le _, rfl, by have h := HS6.out; show SortS _ _ _ _ _ _ _ _ _ _; simpa using h, HO6.out, HL6.out⟩
            case round =>
             obtain ⟨j, rfl, hj, rfl, HS7, HO7, HL7⟩ := hrel
             have hj0 : (0 : Int) ≤ (j : Int) := by omega
             have hnatj : ((j : Int)).toNat = j := by omega
             clear vB
             by_cases hltj : j < rn
             · obtain ⟨y, hy⟩ : ∃ y, (behE ES (t : Int))[j]? = some y := ⟨_, List.getElem?_eq_getElem (by rw [HBL.out]; exact hltj)⟩
               obtain ⟨t1, u, hey, _, hu⟩ := HEB.out _ (beh_edge (List.mem_of_getElem? hy))
               have hyu : y = (u : Int) := (Prod.mk.inj hey).2
               subst hyu
               have hown := (HS7.out.own t ht).2.1
               rw [HRS.out] at hown
               obtain ⟨b, off, hba, e0⟩ := int_at (RowN.of_own hown) j hltj _ hy
               have hjn : (j : Int) < (rn : Int) := by omega
               have vV := HS7.out.cellV
               obtain ⟨vA, vF⟩ := HS7.out.cellA hu
               have hd := upd_dec (g := fun i => cntE ES order (i : Int)) (l := (behE ES (t : Int)).take j) (x := (u : Int)) (t := u) rfl
               rw [← take_snoc hy] at hd
               have h1 := cntE_le ES order (u : Int)
               have h2 := cntE_nonneg ES order (u : Int)
               have h3 : ((behE ES (t : Int)).take j).count (u : Int) ≤ rn := Nat.le_trans List.count_le_length (by rw [List.length_take]; omega)
               have hES4 := HMM.out
               obtain ⟨CV, hCV⟩ : ∃ CV, CV = cntE ES order (u : Int) - ((((behE ES (t : Int)).take j).count (u : Int) : Nat) : Int) := ⟨_, rfl⟩
               rw [← hCV] at vA hd
               have hCVb : -10000 ≤ CV ∧ CV ≤ 10000 := by omega
               obtain ⟨hS8, hc8⟩ := HS7.out.setA u (CV - 1)
               rw [hd] at hS8
               have HS8 := Lib.hid hS8
               have HO8 := Lib.hid (HO7.out.chg hc8 (by omega))
               have HL8 := Lib.hid (HL7.out.chg hc8 (by omega))
               have huI : (u : Int) < (k2 : Int) + 1 := by omega
               have hu0 : (0 : Int) ≤ (u : Int) := by omega
               have hun : ((u : Int)).toNat = u := by omega
               have HBA := Lib.hid hba
               subst hba
               clear hy hey hown hd h1 h2 h3 hES4 hCV hS8 hc8
               go_wp2_with fail
               go_roundg (rn - (j + 1))
               case measure => omega
               case rel => exact ⟨j + 1, by go_num, by omega, rfl, HS8.out, HO8.out, HL8.out⟩
             · obtain rfl : j = rn := by omega
               have hS9 := HS7.out
               rw [show (behE ES (t : Int)).take j = behE ES (t : Int) from List.take_of_length_le (by rw [HBL.out]; exact Nat.le_refl _)] at hS9
               rw [show (fun i : Nat => cntE ES order (i : Int) - (((behE ES (t : Int)).count (i : Int) : Nat) : Int)) = fun i : Nat => cntE ES (order ++ [(t : Int)]) (i : Int) from funext fun i => (HNEXT.out _).symm] at hS9
               have HS9 := Lib.hid hS9
               clear hS9
               go_wp2_with fail
               go_roundg (left.eraseIdx i).length
               case measure => rw [HEL.out]; omega
               case rel => exact ⟨κ4, ao4, cp4, some ⟨g, 0, none⟩, lc3, order ++ [(t : Int)], left.eraseIdx i, by rw [List.length_append]; rfl, by rw [HEL.out], rfl, by rw [HEL.out, List.length_append, List.length_singleton]; omega, HS9.out, by rw [List.length_append]; exact HO7.out, by rw [HEL.out]; exact HL7.out, HPERM.out, HORD.out⟩
end Go.Proofs.YtpknmfmpiachkaaGreat
