/- Spans as few spans. -/
import Derived.Test.YtpknmfmpiachkaaGreatSpan6
namespace Go.Proofs.YtpknmfmpiachkaaGreat
open Go.RowKit
theorem dropS (ss : List Spn) : ∀ i, (ss.flatMap Spn.cells).drop (i * 4) = (ss.drop i).flatMap Spn.cells := by
 induction ss with
 | nil => intro i; simp
 | cons x r ih =>
   intro i
   cases i with
   | zero => simp
   | succ i =>
     rw [List.drop_succ_cons, ← ih i, List.flatMap_cons, show (i + 1) * 4 = 4 + i * 4 by omega, ← List.drop_drop]
     congr 1
theorem span_at {w : World} {a : Option Addr} {n : Nat} {ss : List Spn} (hr : RowN w a 4 n (ss.flatMap Spn.cells)) (hs : ss.length = n) (k : Nat) (hk : k < n) (s : Spn) (he : ss[k]? = some s) :
 ∃ b off, a = some ⟨b, off, none⟩ ∧ w.cell? ⟨b, off + k * 4, none⟩ = some (.float .f64 s.lo) ∧ w.cell? ⟨b, off + k * 4 + 1, none⟩ = some (.float .f64 s.hi) ∧ w.cell? ⟨b, off + k * 4 + 2, none⟩ = some (.bool s.lop) ∧ w.cell? ⟨b, off + k * 4 + 3, none⟩ = some (.bool s.hop) := by
 obtain ⟨b, off, ha, hc⟩ := hr.2 (by omega)
 have hcell : ∀ i u, i < 4 → s.cells[i]? = some u → (ss.flatMap Spn.cells)[k * 4 + i]? = some u := fun i u hi hu => by
  have h1 : ((ss.flatMap Spn.cells).drop (k * 4))[i]? = some u := by
   rw [dropS, List.drop_eq_getElem_cons (show k < ss.length by omega), List.flatMap_cons, List.getElem?_append_left (by simp [Spn.cells]; omega)]
   have : ss[k]'(by omega) = s := (List.getElem?_eq_some_iff.1 he).2
   rw [this]
   exact hu
  rwa [List.getElem?_drop] at h1
 exact ⟨b, off, ha, hc _ _ (hcell 0 _ (by omega) rfl), by rw [Nat.add_assoc]; exact hc _ _ (hcell 1 _ (by omega) rfl), by rw [Nat.add_assoc]; exact hc _ _ (hcell 2 _ (by omega) rfl), by rw [Nat.add_assoc]; exact hc _ _ (hcell 3 _ (by omega) rfl)⟩
def allS (ss : List Spn) : List Spn := (ss.map canonS).filter fun s => !s.lop
def joinL : List Spn → List Spn → List Spn
 | out, [] => out
 | out, s :: r => match out.getLast? with
   | none => joinL (out ++ [s]) r
   | some p => if (joinS p s).2 then joinL (out.dropLast ++ [(joinS p s).1]) r else joinL (out ++ [s]) r
def normS (ss : List Spn) : List Spn := joinL [] (sortG (allS ss))
theorem allS_snoc (ss : List Spn) (k : Nat) (s : Spn) (h : ss[k]? = some s) : allS (ss.take (k + 1)) = allS (ss.take k) ++ (if (canonS s).lop then [] else [canonS s]) := by
 unfold allS
 rw [List.take_add_one, h]
 simp only [Option.toList_some, List.map_append, List.map_cons, List.map_nil, List.filter_append]
 congr 1
 cases hl : (canonS s).lop <;> simp [hl]
theorem allS_good (ss : List Spn) (h : ∀ s ∈ ss, s.ok) : ∀ s ∈ allS ss, GoodS s := by
 intro s hs
 unfold allS at hs
 rw [List.mem_filter, List.mem_map] at hs
 obtain ⟨⟨x, hx, rfl⟩, h2⟩ := hs
 exact good_canon (h x hx) (by simpa using h2)
theorem info_span : (Tryz.prog.info? 101).map (fun i => (i.zero, i.size, i.bytes)) = some (some (.agg #[.float .f64 0, .float .f64 0, .bool false, .bool false]), 4, 24) := by kernel_rfl
theorem cells_one (l : List Spn) : ∀ u ∈ l.flatMap Spn.cells, u.oneCell' = true := by
 intro u hu
 obtain ⟨s, _, h⟩ := List.mem_flatMap.1 hu
 simp [Spn.cells] at h
 rcases h with rfl | rfl | rfl | rfl <;> rfl
theorem cells_oneS (s : Spn) : ∀ u ∈ s.cells, u.oneCell' = true := fun u hu => cells_one [s] u (by rw [List.flatMap_cons, List.flatMap_nil, List.append_nil]; exact hu)
theorem wpList_appendS {w : World} {ops : Array Oper} {rest : List Oper} {o : Oper} {a : Act} {Q : Exit → Act → World → Prop} (hgd : o.guard = none) (s x : Operand)
 (ho : o.op = .call { callee := .builtin .append, args := #[s, x], argTypes := #[24, 24] })
 (base : Nat) (ao : Option Addr) (n cap : Nat) (vs : List Value) (hs : a.eval s = .slice ao n cap) (hown : w.ownsRow base 101 4 (.slice ao n cap) n vs)
 (ax : Option Addr) (m c : Nat) (xs : List Value) (hx : a.eval x = .slice ax m c) (hrow : RowN w ax 4 m xs) (hnil : ax = none → c = 0) (h1 : ∀ u ∈ xs, u.oneCell' = true) (hbig : n + m ≤ 2000000000000) (hbase : base ≤ w.heap.size) (N : Nat) (hN : n + m = N)
 (h : ∀ ao' cap' w', w'.ownsRow base 101 4 (.slice ao' N cap') N (vs ++ xs) → w.grownBy w' (Value.ownBlock (.slice ao n cap)) →
  (Value.ownBlock (.slice ao' N cap') = Value.ownBlock (.slice ao n cap) ∨ Value.ownBlock (.slice ao' N cap') = some w.heap.size) → wpList Tryz.prog ops Q rest (a.put o.dst (.slice ao' N cap')) w') : wpList Tryz.prog ops Q (o :: rest) a w := by
 obtain ⟨i0, hi, hz0, hz1, hz2⟩ := info_parts info_span
 exact wpList_append_row hgd s x _ ho base 101 i0 _ 4 24 Tryz.underlying24 hi hz0 hz1 hz2 rfl (by decide) ao n cap vs hs hown ax m c xs hx hrow.1 hrow.news hnil h1 (by simp only [maxLen]; omega) (by omega) hbase N hN h
theorem joinS_ok {a b : Spn} (ha : a.ok) (hb : b.ok) : (joinS a b).1.ok := by
 have ca := canonS_ok a ha
 have cb := canonS_ok b hb
 unfold joinS
 split
 · exact cb
 · split
   · exact ca
   · split
     · exact ⟨by decide, by decide⟩
     · refine ⟨?_, ?_⟩
       · show Flo.canon (Flo.least2 _ _) < _
         refine Flo.canon_lt _ ?_
         unfold Flo.least2
         split
         · exact cb.1
         · exact ca.1
       · show Flo.canon (Flo.most2 _ _) < _
         refine Flo.canon_lt _ ?_
         unfold Flo.most2
         split
         · exact cb.2
         · exact ca.2
theorem joinL_yes (O : List Spn) (p s : Spn) (r : List Spn) (h : O.getLast? = some p) (hj : (joinS p s).2 = true) : joinL O (s :: r) = joinL (O.dropLast ++ [(joinS p s).1]) r := by
 rw [joinL, h]; simp [hj]
theorem joinL_no (O : List Spn) (p s : Spn) (r : List Spn) (h : O.getLast? = some p) (hj : (joinS p s).2 = false) : joinL O (s :: r) = joinL (O ++ [s]) r := by
 rw [joinL, h]; simp [hj]
theorem set_last {a b c d a' b' c' d' : Value} (D : List Value) (n : Nat) (hn : D.length = n) : ((((D ++ [a, b, c, d]).set n a').set (n + 1) b').set (n + 2) c').set (n + 3) d' = D ++ [a', b', c', d'] := by
 subst hn
 simp [List.set_append_right]
theorem drop_at {α : Type} {l : List α} {k : Nat} {x : α} (h : l[k]? = some x) : l.drop k = x :: l.drop (k + 1) := by
 obtain ⟨hl, h2⟩ := List.getElem?_eq_some_iff.1 h
 rw [List.drop_eq_getElem_cons hl, h2]
def RetSpans (w : World) (l : List Spn) (e : Ending) (w' : World) : Prop :=
 ∃ ao n cap, e = .returned (.slice ao n cap) ∧ l.length = n ∧ w'.ownsRow w.heap.size 101 4 (.slice ao n cap) n (l.flatMap Spn.cells) ∧ Below w.heap.size w w'
set_option maxRecDepth 100000 in
set_option maxHeartbeats 6400000 in
theorem normS_any (ss : List Spn) (a : Option Addr) (n cap : Nat) (w : World) (hrow : RowN w a 4 n (ss.flatMap Spn.cells)) (hl : ss.length = n) (hok : ∀ s ∈ ss, s.ok) (hn : n ≤ 1000000000000) :
 Calls Tryz.prog 53 #[.slice a n cap] w (RetSpans w (normS ss)) := by
 have hst := @store_float
 have HROW := Lib.hid hrow
 have HL := Lib.hid hl
 have HOK := Lib.hid hok
 clear hrow hl hok hst
 go_enter Tryz.func53, Tryz.ntmps53
 go_wp2_with fail
 go_loopw [3, 13] (fun v i wr => ∃ (k m : Nat) (ao : Option Addr) (cp : Nat), i = .int .i64 k ∧ k ≤ n ∧ v = .slice ao m cp ∧ m ≤ k ∧ Hid ((allS (ss.take k)).length = m) ∧ Hid (wr.ownsRow w.heap.size 101 4 (.slice ao m cp) m ((allS (ss.take k)).flatMap Spn.cells)) ∧ Hid (Below w.heap.size w wr)) (fun _ i _ => n - (intOf i).toNat)
 case atStart => exact ⟨0, 0, none, 0, rfl, Nat.zero_le _, rfl, Nat.le_refl _, rfl, World.ownsRow_nil w _ _ 4, Below.refl _ _⟩
 case round =>
  obtain ⟨k, m, ao, cp, rfl, hk, rfl, hmk, HM, HOWN, HBW⟩ := hrel
  by_cases hlt : k < n
  · obtain ⟨s, hs⟩ : ∃ s, ss[k]? = some s := ⟨_, List.getElem?_eq_getElem (by rw [HL.out]; exact hlt)⟩
    have hsok := HOK.out s (List.mem_of_getElem? hs)
    have hsn := allS_snoc ss k s hs
    obtain ⟨b, off, rfl, e0, e1, e2, e3⟩ := span_at (HROW.out.below HBW.out) HL.out k hlt s hs
    have hc := canonS_any s hsok
    unfold Spn.agg at hc
    obtain ⟨C, hC⟩ : ∃ C, C = canonS s := ⟨_, rfl⟩
    rw [← hC] at hc hsn
    obtain ⟨lo, hi, lop, hop⟩ := s
    obtain ⟨clo, chi, clop, chop⟩ := C
    simp only at hc hsn e0 e1 e2 e3
    have hkn : (k : Int) < (n : Int) := by omega
    have hk0 : (0 : Int) ≤ (k : Int) := by omega
    have hnat : ((k : Int)).toNat = k := by omega
    have HC := Lib.hid hc
    have HSN := Lib.hid hsn
    clear hc hsn hs hsok hC
    obtain ⟨Y, hY⟩ : ∃ Y, Y = wr.alloc (.cells #[.float .f64 lo, .float .f64 hi, .bool lop, .bool hop] 101) := ⟨_, rfl⟩
    have hYB : Y.heap[wr.heap.size]? = some (.cells #[.float .f64 lo, .float .f64 hi, .bool lop, .bool hop] 101 (0, 0)) := hY ▸ heap_alloc_new wr _
    have hbY : Below wr.heap.size wr Y := hY ▸ below_alloc (Below.refl _ _) _
    have hBl := HBW.out.size
    have HYB := Lib.hid hYB
    have HBY := Lib.hid hbY
    clear hYB hbY
    go_wp2_with fail
    rw [← hY]
    clear hY e0 e1 e2 e3
    refine (HC.out _).mono ?_
    rintro e w1 ⟨rfl, hb1⟩
    have h1B := (hb1.block wr.heap.size (lt_of_block HYB.out)).trans HYB.out
    have hb1' : Below wr.heap.size wr w1 := below_then HBY.out hb1
    obtain ⟨⟨c0, c1, c2, c3⟩, f0, f1, f2, f3⟩ := four_cells h1B
    have hs1 := hb1'.size
    cases clop with
    | true =>
      have HSN2 : Hid (allS (ss.take (k + 1)) = allS (ss.take k)) := by show _ = _; rw [HSN.out]; simp
      have HZb := Lib.hid (below_set4 hb1' (Nat.le_refl _) (.float .f64 clo) (.float .f64 chi) (.bool true) (.bool chop))
      clear hb1 h1B hb1'
      go_wp2_with fail
      go_roundw
      case rel => exact ⟨k + 1, m, ao, cp, by go_num, by omega, rfl, by omega, by show _ = _; rw [HSN2.out]; exact HM.out, by show World.ownsRow _ _ _ _ _ _ _; rw [HSN2.out]; exact own_below HOWN.out HZb.out (Nat.le_refl _), below_then HBW.out HZb.out⟩
      case measure => simp [intOf]; omega
    | false =>
      have HSN2 : Hid (allS (ss.take (k + 1)) = allS (ss.take k) ++ [⟨clo, chi, false, chop⟩]) := by show _ = _; rw [HSN.out]; rfl
      have HZb := Lib.hid (below_set4 hb1' (Nat.le_refl _) (.float .f64 clo) (.float .f64 chi) (.bool false) (.bool chop))
      have HOZ := Lib.hid (own_below HOWN.out HZb.out (Nat.le_refl _))
      clear hb1 h1B hb1'
      go_wp2_with (at_builtin; refine wpList_appendS rfl (.tmp 22) (.tmp 24) rfl w.heap.size ao m cp ((allS (ss.take k)).flatMap Spn.cells) rfl (own_keep HOZ.out fun g _ hl => alloc_far rfl hl) (some ⟨w1.heap.size, 0, none⟩) 1 1 (Spn.cells ⟨clo, chi, false, chop⟩) rfl (RowN.newH _ _ _ 4 1 _ _ rfl rfl (by simp [World.setCell])) (fun h => by cases h) (cells_oneS _) (by omega) (by simp [World.setCell]; omega) (m + 1) rfl ?_; intro ao3 cp3 w3 hown3 hg3 hat3)
      have hbz := below_alloc (below_then HBW.out HZb.out) (.cells #[.float .f64 clo, .float .f64 chi, .bool false, .bool chop] 101)
      refine ⟨⟨k + 1, m + 1, ao3, cp3, by go_num, by omega, rfl, by omega, ?_, ?_, hbz.grown hg3 hbz.size (fun g hg => (HOWN.out.lt g hg).1)⟩, by simp [intOf]; omega⟩
      · show _ = _
        rw [HSN2.out, List.length_append, HM.out]; rfl
      · show World.ownsRow _ _ _ _ _ _ _
        rw [HSN2.out, List.flatMap_append, List.flatMap_cons, List.flatMap_nil, List.append_nil]; exact hown3
  · obtain rfl : n = k := by omega
    have hs := sortS_any (allS ss) (allS_good ss HOK.out) w.heap.size ao m cp wr (by have := HOWN.out; rwa [List.take_of_length_le (by rw [HL.out]; exact Nat.le_refl _)] at this) (by have := HM.out; rwa [List.take_of_length_le (by rw [HL.out]; exact Nat.le_refl _)] at this) (by omega)
    have HS := Lib.hid hs
    have hSl : (sortG (allS ss)).length = m := by have := HM.out; rw [List.take_of_length_le (by rw [HL.out]; exact Nat.le_refl _)] at this; unfold sortG; rw [List.length_mergeSort, this]
    have hSo : ∀ s ∈ sortG (allS ss), s.ok := fun s hs => (allS_good ss HOK.out s (by unfold sortG at hs; exact (List.mergeSort_perm _ _).mem_iff.1 hs)).ok
    obtain ⟨S, hS⟩ : ∃ S, S = sortG (allS ss) := ⟨_, rfl⟩
    have hR : joinL [] S = normS ss := by rw [hS]; rfl
    rw [← hS] at hSl hSo
    rw [← hS] at HS
    have HSL := Lib.hid hSl
    have HSO := Lib.hid hSo
    have HR := Lib.hid hR
    have hwr := HBW.out.size
    clear hs hSl hSo hS hR
    go_wp2_with fail
    refine HS.out.mono ?_
    rintro e w2 ⟨rfl, hown2, hb2⟩
    have hb2' := hb2 w.heap.size (Nat.le_refl _) hwr
    have HO2 := Lib.hid hown2
    have HB2 := Lib.hid (HBW.out.trans hb2')
    have hw2 := hb2'.size
    clear hown2 hb2 hb2' HS
    obtain ⟨wo, rfl⟩ : ∃ wo, wo = wr := ⟨_, rfl⟩
    go_wp2_with fail
    go_loopw [4, 31] (fun v i wx => ∃ (k L : Nat) (O : List Spn) (ao2 : Option Addr) (cp2 : Nat), i = .int .i64 k ∧ k ≤ m ∧ v = .slice ao2 L cp2 ∧ L ≤ k ∧ Hid (O.length = L) ∧ Hid (joinL O (S.drop k) = normS ss) ∧ Hid (∀ s ∈ O, s.ok) ∧ Hid (wx.ownsRow w2.heap.size 101 4 (.slice ao2 L cp2) L (O.flatMap Spn.cells)) ∧ Hid (Below w2.heap.size w2 wx)) (fun _ i _ => m - (intOf i).toNat)
    case atStart => exact ⟨0, 0, [], none, 0, rfl, Nat.zero_le _, rfl, Nat.le_refl _, rfl, HR.out, (fun s hs => by cases hs), World.ownsRow_nil _ _ _ 4, Below.refl _ _⟩
    case round =>
     obtain ⟨k, L, O, ao2, cp2, rfl, hk2, rfl, hLk, HOL, HJ, HOO, HOUT, HBX⟩ := hrel
     by_cases hlt2 : k < m
     · obtain ⟨s, hs⟩ : ∃ s, S[k]? = some s := ⟨_, List.getElem?_eq_getElem (by rw [HSL.out]; exact hlt2)⟩
       have hsok := HSO.out s (List.mem_of_getElem? hs)
       have hdr := drop_at hs
       have hj := HJ.out
       rw [hdr] at hj
       obtain ⟨b, off, rfl, e0, e1, e2, e3⟩ := span_at ((RowN.of_own HO2.out).below HBX.out) HSL.out k hlt2 s hs
       have hwx := HBX.out.size
       have hkn : (k : Int) < (m : Int) := by omega
       have hk0 : (0 : Int) ≤ (k : Int) := by omega
       have hnat : ((k : Int)).toNat = k := by omega
       obtain ⟨lo, hi, lop, hop⟩ := s
       simp only at e0 e1 e2 e3
       have HJ2 := Lib.hid hj
       have HSOK := Lib.hid hsok
       clear hs hdr hj hsok
       obtain ⟨Y, hY⟩ : ∃ Y, Y = wr.alloc (.cells #[.float .f64 lo, .float .f64 hi, .bool lop, .bool hop] 101) := ⟨_, rfl⟩
       have hYB : Y.heap[wr.heap.size]? = some (.cells #[.float .f64 lo, .float .f64 hi, .bool lop, .bool hop] 101 (0, 0)) := hY ▸ heap_alloc_new wr _
       have hbY : Below wr.heap.size wr Y := hY ▸ below_alloc (Below.refl _ _) _
       have hOY := own_below HOUT.out hbY (Nat.le_refl _)
       have HOY := Lib.hid hOY
       have HYB := Lib.hid hYB
       have HBY := Lib.hid (HBX.out.trans (hbY.mono hwx))
       have hYs : Y.heap.size = wr.heap.size + 1 := by rw [hY, World.size_alloc]
       have hYl : wr.heap.size + 1 ≤ Y.heap.size := by omega
       clear hYs hOY hbY
       cases L with
       | zero =>
         have hO : O = [] := List.eq_nil_of_length_eq_zero HOL.out
         subst hO
         have HJ3 : Hid (joinL [⟨lo, hi, lop, hop⟩] (S.drop (k + 1)) = normS ss) := HJ2.out
         obtain ⟨⟨d0, d1, d2, d3⟩, _⟩ := four_cells hYB
         clear hYB
         go_upto_region 17 with fail
         rw [← hY]
         clear hY
         go_wp2_with (at_builtin; refine wpList_appendS rfl (.tmp 56) (.tmp 58) rfl w2.heap.size ao2 0 cp2 [] rfl (own_keep HOY.out fun g _ hl => alloc_far rfl hl) (some ⟨Y.heap.size, 0, none⟩) 1 1 (Spn.cells ⟨lo, hi, lop, hop⟩) rfl (RowN.newH _ _ _ 4 1 _ _ rfl rfl rfl) (fun h => by cases h) (cells_oneS _) (by omega) (by simp; omega) 1 rfl ?_; intro ao3 cp3 w3 hown3 hg3 hat3)
         refine ⟨⟨k + 1, 1, [⟨lo, hi, lop, hop⟩], ao3, cp3, by go_num, by omega, rfl, by omega, rfl, HJ3.out, ?_, hown3, ?_⟩, by simp [intOf]; omega⟩
         · intro x hx; rw [List.mem_singleton] at hx; subst hx; exact HSOK.out
         · exact ((HBY.out.alloc (by omega) _).grown hg3 (by simp; omega) (fun g hg => (HOUT.out.lt g hg).1))
       | succ L =>
         obtain ⟨p, hp⟩ : ∃ p, O[L]? = some p := ⟨_, List.getElem?_eq_getElem (by rw [HOL.out]; omega)⟩
         have hlast : O.getLast? = some p := by rw [List.getLast?_eq_getElem?, HOL.out]; exact hp
         have hpok := HOO.out p (List.mem_of_getElem? hp)
         have hspl : O = O.dropLast ++ [p] := by
          rcases List.eq_nil_or_concat O with rfl | ⟨l, x, rfl⟩
          · simp at hlast
          · simp at hlast ⊢; exact hlast
         have hag : ∃ g, ao2 = some ⟨g, 0, none⟩ ∧ w2.heap.size ≤ g ∧ g < wr.heap.size := by
          rcases HOUT.out.2 with ⟨hv, h0⟩ | ⟨g, cp', cur, hv, hbg, hg, _⟩
          · omega
          · simp only [Value.slice.injEq, true_and] at hv
            exact ⟨g, hv.1, hbg, lt_of_block hg⟩
         obtain ⟨g, rfl, hg1, hg2⟩ := hag
         obtain ⟨b2, off2, hb2, p0, p1, p2, p3⟩ := span_at (RowN.of_own HOY.out) HOL.out L (by omega) p hp
         simp only [Option.some.injEq, Addr.mk.injEq, and_true] at hb2
         obtain ⟨rfl, rfl⟩ := hb2
         rw [Nat.zero_add] at p0 p1 p2 p3
         have hjn := joinS_any p ⟨lo, hi, lop, hop⟩ hpok HSOK.out
         have hjok := joinS_ok hpok HSOK.out
         obtain ⟨J, hJ⟩ : ∃ J, J = joinS p ⟨lo, hi, lop, hop⟩ := ⟨_, rfl⟩
         have hyes := joinL_yes O p ⟨lo, hi, lop, hop⟩ (S.drop (k + 1)) hlast
         have hno := joinL_no O p ⟨lo, hi, lop, hop⟩ (S.drop (k + 1)) hlast
         rw [← hJ] at hjn hjok hyes hno
         obtain ⟨⟨jlo, jhi, jlop, jhop⟩, jb⟩ := J
         obtain ⟨plo, phi, plop, phop⟩ := p
         unfold JoinPost Spn.agg at hjn
         simp only at hjn hjok hyes hno p0 p1 p2 p3
         have HJN := Lib.hid hjn
         have HJOK := Lib.hid hjok
         have HYES := Lib.hid hyes
         have HNO := Lib.hid hno
         have HSPL := Lib.hid hspl
         clear hp hlast hpok hspl hjn hjok hyes hno hJ
         have hkeep : ∀ Z, Below Y.heap.size Y Z → Z.cell? ⟨g, L * 4, none⟩ = some (.float .f64 plo) ∧ Z.cell? ⟨g, L * 4 + 1, none⟩ = some (.float .f64 phi) ∧ Z.cell? ⟨g, L * 4 + 2, none⟩ = some (.bool plop) ∧ Z.cell? ⟨g, L * 4 + 3, none⟩ = some (.bool phop) ∧ Z.cell? ⟨wr.heap.size, 0, none⟩ = some (.float .f64 lo) ∧ Z.cell? ⟨wr.heap.size, 1, none⟩ = some (.float .f64 hi) ∧ Z.cell? ⟨wr.heap.size, 2, none⟩ = some (.bool lop) ∧ Z.cell? ⟨wr.heap.size, 3, none⟩ = some (.bool hop) := fun Z hZ => by
          have q := four_cells ((hZ.block _ (lt_of_block HYB.out)).trans HYB.out)
          exact ⟨(hZ.cell (p := ⟨g, _, none⟩) (by simp; omega)).trans p0, (hZ.cell (p := ⟨g, _, none⟩) (by simp; omega)).trans p1, (hZ.cell (p := ⟨g, _, none⟩) (by simp; omega)).trans p2, (hZ.cell (p := ⟨g, _, none⟩) (by simp; omega)).trans p3, q.1.1, q.1.2.1, q.1.2.2.1, q.1.2.2.2⟩
         have HKEEP := Lib.hid hkeep
         have hfz : ∀ i, Y.frozen? ⟨g, i, none⟩ = false := fun i => World.ownsRow.frozenAt HOY.out i
         have HFZ := Lib.hid hfz
         clear hkeep p0 p1 p2 p3 hYB hfz
         have hw : IntKind.i64.wrap (((L + 1 : Nat) : Int) - 1) = (L : Int) := by rw [IntKind.wrap_i64] <;> omega
         have hw2 : IntKind.i64.wrap (L : Int) = (L : Int) := by rw [IntKind.wrap_i64] <;> omega
         have hi1 : (L : Int) < ((L + 1 : Nat) : Int) := by omega
         have hi2 : (L : Int) < (L : Int) + 1 := by omega
         have hi3 : (0 : Int) ≤ (L : Int) := by omega
         have hgt : (0 : Int) < ((L + 1 : Nat) : Int) := by omega
         go_upto_region 14 with fail
         rw [← hY]
         clear hY e0 e1 e2 e3
         go_cut [9, 10] from 32 to 60 (fun v9 v10 wx => ∃ B9, v9 = .pointer (some ⟨B9, 0, none⟩) ∧ v10 = .bool jb ∧ Hid (wx.heap[B9]? = some (.cells #[.float .f64 jlo, .float .f64 jhi, .bool jlop, .bool jhop] 101 (0, 0))) ∧ Hid (Below Y.heap.size Y wx) ∧ Y.heap.size ≤ B9)
         case first =>
          refine wp_region_noPanic ?_
          refine wp_region_held_drew (S := (fun w' => w'.cell? ⟨g, L * 4, none⟩ = some (.float .f64 plo) ∧ w'.cell? ⟨g, L * 4 + 1, none⟩ = some (.float .f64 phi) ∧ w'.cell? ⟨g, L * 4 + 2, none⟩ = some (.bool plop) ∧ w'.cell? ⟨g, L * 4 + 3, none⟩ = some (.bool phop) ∧ w'.cell? ⟨wr.heap.size, 0, none⟩ = some (.float .f64 lo) ∧ w'.cell? ⟨wr.heap.size, 1, none⟩ = some (.float .f64 hi) ∧ w'.cell? ⟨wr.heap.size, 2, none⟩ = some (.bool lop) ∧ w'.cell? ⟨wr.heap.size, 3, none⟩ = some (.bool hop))) (by kernel_rfl) ?_ (fun hHeld0 => ?_)
          · refine HKEEP.out _ ?_; (repeat (first | assumption | exact Below.refl _ _ | refine below_alloc ?_ _ | refine below_set ?_ _ (by omega) | refine below_drewN ?_ _ | refine Below.drew ?_))
          refine wu 0 rfl ?_ (hw := by rfl)
          refine wu 1 rfl ?_ (hw := by rfl)
          refine wu 2 rfl ?_ (hw := by rfl)
          refine wu 3 rfl ?_ (hw := by rfl)
          refine wu 4 rfl ?_ (hw := by rfl)
          refine wu 5 rfl ?_ (hw := by rfl)
          refine wu 6 rfl ?_ (hw := by rfl)
          refine wz 7 11 rfl (fun K hK => ?_) rfl fun K hK => ?_
          · skip
            go_simp
            go_at_call 99
            refine (HJN.out _).mono ?_
            rintro e w4 ⟨rfl, hb4⟩
            have hb5 : Below Y.heap.size Y w4 := below_then (by (repeat (first | assumption | exact Below.refl _ _ | refine below_alloc ?_ _ | refine below_set ?_ _ (by omega) | refine below_drewN ?_ _ | refine Below.drew ?_))) hb4
            go_wp2_with fail
            refine hK.out _ _ ?_ (fun hHeld1 => ?_)
            · refine HKEEP.out _ ?_; (repeat (first | assumption | exact Below.refl _ _ | refine below_alloc ?_ _ | refine below_set ?_ _ (by omega) | refine below_drewN ?_ _ | refine Below.drew ?_))
            clear hK K hHeld0
            try simp only [Act.put, List.setIfInBounds_toArray, List.set]
            refine wu 8 rfl ?_ (hw := by rfl)
            refine wu 9 rfl ?_ (hw := by rfl)
            refine wu 10 rfl ?_ (hw := by rfl)
            refine wy 11 rfl fun K hK => ?_
            go_simp
            refine hK.out _ _ ?_ (fun hHeld2 => ?_)
            · refine HKEEP.out _ ?_; (repeat (first | assumption | exact Below.refl _ _ | refine below_alloc ?_ _ | refine below_set ?_ _ (by omega) | refine below_drewN ?_ _ | refine Below.drew ?_))
            clear hK K hHeld1
            try simp only [Act.put, List.setIfInBounds_toArray, List.set]
            refine wy 12 rfl fun K hK => ?_
            go_simp
            refine hK.out _ _ ?_ (fun hHeld3 => ?_)
            · refine HKEEP.out _ ?_; (repeat (first | assumption | exact Below.refl _ _ | refine below_alloc ?_ _ | refine below_set ?_ _ (by omega) | refine below_drewN ?_ _ | refine Below.drew ?_))
            clear hK K hHeld2
            try simp only [Act.put, List.setIfInBounds_toArray, List.set]
            refine wu 13 rfl ?_ (hw := by rfl)
            refine wpAnyH_done (by kernel_rfl) ?_ _
            refine NoPanic.normal ?_
            go_wp2_with fail
            go_meet
            exact ⟨w4.heap.size, rfl, rfl, heap_alloc_new w4 _, below_alloc hb5 _, hb5.size⟩
          · skip
            go_simp
            refine hK.out _ _ ?_ (fun hHeld4 => ?_)
            · refine HKEEP.out _ ?_; (repeat (first | assumption | exact Below.refl _ _ | refine below_alloc ?_ _ | refine below_set ?_ _ (by omega) | refine below_drewN ?_ _ | refine Below.drew ?_))
            clear hK K hHeld0
            try simp only [Act.put, List.setIfInBounds_toArray, List.set]
            refine wy 7 rfl fun K hK => ?_
            go_simp
            go_at_call 99
            refine (HJN.out _).mono ?_
            rintro e w4 ⟨rfl, hb4⟩
            have hb5 : Below Y.heap.size Y w4 := below_then (by (repeat (first | assumption | exact Below.refl _ _ | refine below_alloc ?_ _ | refine below_set ?_ _ (by omega) | refine below_drewN ?_ _ | refine Below.drew ?_))) hb4
            have h9 : w4.heap[Y.heap.size]? = some (.cells #[.float .f64 0, .float .f64 0, .bool false, .bool false] 101 (0, 0)) := (hb4.block _ (by simp)).trans (heap_alloc_new Y _)
            obtain ⟨⟨z0, z1, z2, z3⟩, y0, y1, y2, y3⟩ := four_cells h9
            go_wp2_with fail
            refine hK.out _ _ ?_ (fun hHeld5 => ?_)
            · refine HKEEP.out _ ?_; (repeat (first | assumption | exact Below.refl _ _ | refine below_alloc ?_ _ | refine below_set ?_ _ (by omega) | refine below_drewN ?_ _ | refine Below.drew ?_))
            clear hK K hHeld4
            try simp only [Act.put, List.setIfInBounds_toArray, List.set]
            refine wu 8 rfl ?_ (hw := by rfl)
            refine wu 9 rfl ?_ (hw := by rfl)
            refine wu 10 rfl ?_ (hw := by rfl)
            refine wy 12 rfl fun K hK => ?_
            go_simp
            refine hK.out _ _ ?_ (fun hHeld6 => ?_)
            · refine HKEEP.out _ ?_; (repeat (first | assumption | exact Below.refl _ _ | refine below_alloc ?_ _ | refine below_set ?_ _ (by omega) | refine below_drewN ?_ _ | refine Below.drew ?_))
            clear hK K hHeld5
            try simp only [Act.put, List.setIfInBounds_toArray, List.set]
            refine wu 13 rfl ?_ (hw := by rfl)
            refine wpAnyH_done (by kernel_rfl) ?_ _
            refine NoPanic.normal ?_
            go_wp2_with fail
            go_meet
            exact ⟨Y.heap.size, rfl, rfl, set4 h9 _ _ _ _, below_set4 hb5 (Nat.le_refl _) _ _ _ _, Nat.le_refl _⟩
         case rest =>
          obtain ⟨B9, rfl, rfl, H9, HBZ, hB9⟩ := hcut
          have hkp := HKEEP.out _ HBZ.out
          obtain ⟨p0, p1, p2, p3, q0, q1, q2, q3⟩ := hkp
          have hOZ := own_below HOY.out HBZ.out (Nat.le_refl _)
          have HOZ := Lib.hid hOZ
          have hfz : ∀ i, wc.frozen? ⟨g, i, none⟩ = false := fun i => World.ownsRow.frozenAt hOZ i
          have fz0 := hfz (L * 4)
          have fz1 := hfz (L * 4 + 1)
          have fz2 := hfz (L * 4 + 2)
          have fz3 := hfz (L * 4 + 3)
          have h9 := H9.out
          obtain ⟨⟨z0, z1, z2, z3⟩, _⟩ := four_cells h9
          have hzs := HBZ.out.size
          clear hfz hOZ h9
          cases jb with
          | true =>
            clear q0 q1 q2 q3
            go_wp2_with fail
            have hD : O.dropLast.length = L := by rw [List.length_dropLast, HOL.out]; rfl
            refine ⟨⟨k + 1, L + 1, O.dropLast ++ [⟨jlo, jhi, jlop, jhop⟩], some ⟨g, 0, none⟩, cp2, by go_num, by omega, rfl, by omega, ?_, ?_, ?_, ?_, ?_⟩, by simp [intOf]; omega⟩
            · show _ = _
              rw [List.length_append, hD]; rfl
            · show _ = _
              rw [← HYES.out rfl]; exact HJ2.out
            · intro x hx
              rcases List.mem_append.1 hx with hx | hx
              · exact HOO.out x (List.dropLast_subset _ hx)
              · rw [List.mem_singleton] at hx; subst hx; exact HJOK.out
            · show World.ownsRow _ _ _ _ _ _ _
              have hO := HSPL.out
              have h1 := HOZ.out
              rw [hO, List.flatMap_append, List.flatMap_cons, List.flatMap_nil, List.append_nil] at h1
              have h2 := (World.ownsRow.stored (World.ownsRow.stored (World.ownsRow.stored (World.ownsRow.stored h1 (L * 4) (.float .f64 jlo)).1 (L * 4 + 1) (.float .f64 jhi)).1 (L * 4 + 2) (.bool jlop)).1 (L * 4 + 3) (.bool jhop)).1
              have hDl : (O.dropLast.flatMap Spn.cells).length = L * 4 := by
               rw [← hD]
               clear h1 h2 hO hD
               generalize O.dropLast = D
               induction D with
               | nil => rfl
               | cons x r ih => rw [List.flatMap_cons, List.length_append, ih, List.length_cons]; simp [Spn.cells]; omega
              rw [show Spn.cells ⟨plo, phi, plop, phop⟩ = [.float .f64 plo, .float .f64 phi, .bool plop, .bool phop] from rfl, set_last _ _ hDl] at h2
              rw [List.flatMap_append, List.flatMap_cons, List.flatMap_nil, List.append_nil]
              exact h2
            · have hb := HBY.out.trans (HBZ.out.mono HBY.out.size)
              exact below_set (below_set (below_set (below_set hb _ hg1) _ hg1) _ hg1) _ hg1
          | false =>
            clear p0 p1 p2 p3 fz0 fz1 fz2 fz3 z0 z1 z2 z3
            go_wp2_with (at_builtin; refine wpList_appendS rfl (.tmp 56) (.tmp 58) rfl w2.heap.size (some ⟨g, 0, none⟩) (L + 1) cp2 (O.flatMap Spn.cells) rfl (own_keep HOZ.out fun g _ hl => alloc_far rfl hl) (some ⟨wc.heap.size, 0, none⟩) 1 1 (Spn.cells ⟨lo, hi, lop, hop⟩) rfl (RowN.newH _ _ _ 4 1 _ _ rfl rfl rfl) (fun h => by cases h) (cells_oneS _) (by omega) (by simp; omega) (L + 1 + 1) rfl ?_; intro ao3 cp3 w3 hown3 hg3 hat3)
            refine ⟨⟨k + 1, L + 1 + 1, O ++ [⟨lo, hi, lop, hop⟩], ao3, cp3, by go_num, by omega, rfl, by omega, ?_, ?_, ?_, ?_, ?_⟩, by simp [intOf]; omega⟩
            · show _ = _
              rw [List.length_append, HOL.out]; rfl
            · show _ = _
              rw [← HNO.out rfl]; exact HJ2.out
            · intro x hx
              rcases List.mem_append.1 hx with hx | hx
              · exact HOO.out x hx
              · rw [List.mem_singleton] at hx; subst hx; exact HSOK.out
            · show World.ownsRow _ _ _ _ _ _ _
              rw [List.flatMap_append, List.flatMap_cons, List.flatMap_nil, List.append_nil]
              exact hown3
            · have hb := HBY.out.trans (HBZ.out.mono HBY.out.size)
              exact ((hb.alloc (by omega) _).grown hg3 (by simp; omega) (fun g' hg' => by injection hg' with hg'; simp only at hg'; omega))
     · have hke : k = m := by omega
       subst hke
       go_wp2_with fail
       go_ret
       have hO : O = normS ss := by
        have := HJ.out
        rw [List.drop_of_length_le (by rw [HSL.out]; exact Nat.le_refl _)] at this
        exact this
       subst hO
       exact ⟨ao2, L, cp2, rfl, HOL.out, own_more HOUT.out (by omega), HB2.out.trans (HBX.out.mono (by omega))⟩
end Go.Proofs.YtpknmfmpiachkaaGreat
