/- serial's Edges: all edges of a right history. -/
import Derived.Test.YtpknmfmpiachkaaGreatSer3
import Derived.Test.YtpknmfmpiachkaaGreatCert7
namespace Go.Proofs.YtpknmfmpiachkaaGreat
open Go.RowKit
def cellsE (l : List (Int × Int)) : List Value := l.flatMap fun e => [.int .i64 e.1, .int .i64 e.2]
theorem cellsE_app (l r : List (Int × Int)) : cellsE (l ++ r) = cellsE l ++ cellsE r := by simp [cellsE]
theorem cellsE_one (l : List (Int × Int)) : ∀ u ∈ cellsE l, u.oneCell' = true := fun u hu => by
 obtain ⟨v, _, hu⟩ := List.mem_flatMap.1 hu
 simp only [List.mem_cons, List.not_mem_nil, or_false] at hu
 rcases hu with rfl | rfl <;> rfl
theorem cellsI_one (l : List Int) : ∀ u ∈ cellsI l, u.oneCell' = true := fun u hu => by
 unfold cellsI at hu
 obtain ⟨x, _, rfl⟩ := List.mem_map.1 hu
 rfl
theorem cellsI_app (l r : List Int) : cellsI (l ++ r) = cellsI l ++ cellsI r := by simp [cellsI]
theorem info_edge : (Tryz.prog.info? 134).map (fun i => (i.zero, i.size, i.bytes)) = some (some (.agg #[.int .i64 0, .int .i64 0]), 2, 16) := by kernel_rfl
theorem info_int64 : (Tryz.prog.info? 2).map (fun i => (i.zero, i.size, i.bytes)) = some (some (.int .i64 0), 1, 8) := by kernel_rfl
theorem wpList_appendE {w : World} {ops : Array Oper} {rest : List Oper} {o : Oper} {a : Act} {Q : Exit → Act → World → Prop} (hgd : o.guard = none) (s x : Operand)
 (ho : o.op = .call { callee := .builtin .append, args := #[s, x], argTypes := #[131, 131] })
 (base : Nat) (ao : Option Addr) (n cap : Nat) (vs : List Value) (hs : a.eval s = .slice ao n cap) (hown : w.ownsRow base 134 2 (.slice ao n cap) n vs)
 (ax : Option Addr) (m c : Nat) (xs : List Value) (hx : a.eval x = .slice ax m c) (hrow : RowN w ax 2 m xs) (hnil : ax = none → c = 0) (h1 : ∀ u ∈ xs, u.oneCell' = true) (hbig : n + m ≤ 2000000000000) (hbase : base ≤ w.heap.size) (N : Nat) (hN : n + m = N)
 (h : ∀ ao' cap' w', w'.ownsRow base 134 2 (.slice ao' N cap') N (vs ++ xs) → w.grownBy w' (Value.ownBlock (.slice ao n cap)) →
  (Value.ownBlock (.slice ao' N cap') = Value.ownBlock (.slice ao n cap) ∨ Value.ownBlock (.slice ao' N cap') = some w.heap.size) → wpList Tryz.prog ops Q rest (a.put o.dst (.slice ao' N cap')) w') : wpList Tryz.prog ops Q (o :: rest) a w := by
 obtain ⟨i0, hi, hz0, hz1, hz2⟩ := info_parts info_edge
 exact wpList_append_row hgd s x _ ho base 134 i0 _ 2 16 Tryz.underlying131 hi hz0 hz1 hz2 rfl (by decide) ao n cap vs hs hown ax m c xs hx hrow.1 hrow.news hnil h1 (by simp only [maxLen]; omega) (by omega) hbase N hN h
theorem wpList_appendI {w : World} {ops : Array Oper} {rest : List Oper} {o : Oper} {a : Act} {Q : Exit → Act → World → Prop} (hgd : o.guard = none) (s x : Operand)
 (ho : o.op = .call { callee := .builtin .append, args := #[s, x], argTypes := #[41, 41] })
 (base : Nat) (ao : Option Addr) (n cap : Nat) (vs : List Value) (hs : a.eval s = .slice ao n cap) (hown : w.ownsRow base 2 1 (.slice ao n cap) n vs)
 (ax : Option Addr) (m c : Nat) (xs : List Value) (hx : a.eval x = .slice ax m c) (hrow : RowN w ax 1 m xs) (hnil : ax = none → c = 0) (h1 : ∀ u ∈ xs, u.oneCell' = true) (hbig : n + m ≤ 2000000000000) (hbase : base ≤ w.heap.size) (N : Nat) (hN : n + m = N)
 (h : ∀ ao' cap' w', w'.ownsRow base 2 1 (.slice ao' N cap') N (vs ++ xs) → w.grownBy w' (Value.ownBlock (.slice ao n cap)) →
  (Value.ownBlock (.slice ao' N cap') = Value.ownBlock (.slice ao n cap) ∨ Value.ownBlock (.slice ao' N cap') = some w.heap.size) → wpList Tryz.prog ops Q rest (a.put o.dst (.slice ao' N cap')) w') : wpList Tryz.prog ops Q (o :: rest) a w := by
 obtain ⟨i0, hi, hz0, hz1, hz2⟩ := info_parts info_int64
 exact wpList_append_row hgd s x _ ho base 2 i0 _ 1 8 Tryz.underlying41 hi hz0 hz1 hz2 rfl (by decide) ao n cap vs hs hown ax m c xs hx hrow.1 hrow.news hnil h1 (by simp only [maxLen]; omega) (by omega) hbase N hN h
theorem rightL_right {h : List DoneV} (hw : ∀ d ∈ h, d.m.s.Words) : ∀ (l : List DoneV) (i : Nat), (∀ d ∈ l, d ∈ h) → rightL h i l = true → ∀ d ∈ l, d.m.s.Right
 | [], _, _, _ => fun d hd => absurd hd List.not_mem_nil
 | x :: r, i, hs, hr => fun d hd => by
   unfold rightL at hr
   rw [Bool.and_eq_true] at hr
   rcases List.mem_cons.1 hd with rfl | hd
   · have h1 := hr.1
     unfold badAt at h1
     simp only [Bool.not_eq_true', Bool.or_eq_false_iff, decide_eq_false_iff_not] at h1
     exact check_right (hw d (hs d (List.mem_cons_self ..))) (by have := h1.1.1.2; omega)
   · exact rightL_right hw r (i + 1) (fun y hy => hs y (List.mem_cons_of_mem _ hy)) hr.2 d hd
theorem rightP_right {h : List DoneV} (hw : ∀ d ∈ h, d.m.s.Words) (hr : rightP h = true) : h.length ≤ 64 ∧ ∀ d ∈ h, d.m.s.Right := by
 unfold rightP at hr
 rw [Bool.and_eq_true, decide_eq_true_eq] at hr
 exact ⟨hr.1, rightL_right hw h 0 (fun _ h => h) hr.2⟩
def edgesFrom (l : List DoneV) (a : DoneV) : List (Int × Int) := (l.filter (leadsP a)).map fun b => (a.num, b.num)
def edgesP (h : List DoneV) : List (Int × Int) := if rightP h then h.flatMap (edgesFrom h) else []
def RetEdges (w : World) (l : List (Int × Int)) (e : Ending) (w' : World) : Prop :=
 ∃ ao cap, e = .returned (.slice ao l.length cap) ∧ w'.ownsRow w.heap.size 134 2 (.slice ao l.length cap) l.length (cellsE l) ∧ Below w.heap.size w w'
theorem edgesFrom_snoc (l : List DoneV) (a b : DoneV) : edgesFrom (l ++ [b]) a = edgesFrom l a ++ (if leadsP a b then [(a.num, b.num)] else []) := by
 unfold edgesFrom
 rw [List.filter_append, List.map_append]
 congr 1
 cases h : leadsP a b <;> simp [h]
theorem edgesFrom_len (l : List DoneV) (a : DoneV) : (edgesFrom l a).length ≤ l.length := by
 unfold edgesFrom
 rw [List.length_map]
 exact List.length_filter_le _ _
theorem take_snoc {α : Type} {l : List α} {k : Nat} {x : α} (h : l[k]? = some x) : l.take (k + 1) = l.take k ++ [x] := by rw [List.take_add_one, h]; rfl
theorem edges_len (h : List DoneV) : ∀ (l : List DoneV), (l.flatMap (edgesFrom h)).length ≤ l.length * h.length
 | [] => by simp
 | x :: r => by
   rw [List.flatMap_cons, List.length_append, List.length_cons, Nat.add_mul, Nat.one_mul]
   have := edgesFrom_len h x
   have := edges_len h r
   omega
set_option maxRecDepth 100000 in
set_option maxHeartbeats 12800000 in
theorem edges_any (a : Option Addr) (n cap : Nat) (h : List DoneV) (w : World) (hh : HistAt w a n cap h) :
 Calls Tryz.prog 63 #[.slice a n cap] w (RetEdges w (edgesP h)) := by
 have hri := right_any a n cap h w hh
 obtain ⟨RT, hRT⟩ : ∃ RT, RT = rightP h := ⟨_, rfl⟩
 rw [← hRT] at hri
 have HRI := Lib.hid hri
 have HRT := Lib.hid hRT
 have HH := Lib.hid hh
 have hlen := hh.len
 clear hri hRT hh
 cases RT with
 | false =>
   have HE : Hid (edgesP h = []) := by show _ = _; unfold edgesP; rw [← HRT.out]; rfl
   go_enter Tryz.func63, Tryz.ntmps63
   go_wp2_with fail
   refine HRI.out.mono ?_
   rintro e w1 ⟨rfl, hb1⟩
   have HB1 := Lib.hid hb1
   clear hb1
   go_wp2_with fail
   go_ret
   rw [HE.out]
   exact ⟨none, 0, rfl, World.ownsRow_nil _ _ _ _, HB1.out⟩
 | true =>
   have hpr := rightP_right (fun d hd => (HH.out.ok d hd).words) HRT.out.symm
   have HRR := Lib.hid hpr.2
   have hn64 : n ≤ 64 := by rw [← hlen]; exact hpr.1
   have HE : Hid (edgesP h = h.flatMap (edgesFrom h)) := by show _ = _; unfold edgesP; rw [← HRT.out]; rfl
   have HLEN := Lib.hid hlen
   clear hpr hlen HRT
   go_enter Tryz.func63, Tryz.ntmps63
   go_wp2_with fail
   refine HRI.out.mono ?_
   rintro e w1 ⟨rfl, hb1⟩
   have HB1 := Lib.hid hb1
   clear hb1 HRI
   go_wp2_with fail
   go_loopg [3, 14] n (fun g s3 s14 wx => ∃ (k m : Nat) (ao : Option Addr) (cp : Nat), s14 = .int .i64 k ∧ k ≤ n ∧ g = n - k ∧ s3 = .slice ao m cp ∧ Hid (((h.take k).flatMap (edgesFrom h)).length = m) ∧ Hid (wx.ownsRow w.heap.size 134 2 (.slice ao m cp) m (cellsE ((h.take k).flatMap (edgesFrom h)))) ∧ Hid (Below w.heap.size w wx))
   case atStart => exact ⟨0, 0, none, 0, rfl, Nat.zero_le _, rfl, rfl, rfl, World.ownsRow_nil _ _ _ _, HB1.out⟩
   case round =>
    obtain ⟨k, m, ao, cp, rfl, hk, rfl, rfl, HM, HOWN, HB⟩ := hrel
    have hk0 : (0 : Int) ≤ (k : Int) := by omega
    have hnat : ((k : Int)).toNat = k := by omega
    by_cases hlt : k < n
    · obtain ⟨d, hd⟩ : ∃ d, h[k]? = some d := ⟨_, List.getElem?_eq_getElem (by rw [HLEN.out]; exact hlt)⟩
      have hdm := List.mem_of_getElem? hd
      obtain ⟨b, off, hra, e0, e1, e2, e3, e4, e5, e6⟩ := done_at (HH.out.below HB.out).row HLEN.out k hlt d hd
      subst hra
      have hkn : (k : Int) < (n : Int) := by omega
      have hsn : (h.take (k + 1)).flatMap (edgesFrom h) = (h.take k).flatMap (edgesFrom h) ++ edgesFrom h d := by rw [take_snoc hd, List.flatMap_append, List.flatMap_cons, List.flatMap_nil, List.append_nil]
      obtain ⟨X, hX⟩ : ∃ X, X = wr.alloc (.cells d.cells.toArray 40) := ⟨_, rfl⟩
      have hbX : Below w.heap.size w X := hX ▸ below_alloc HB.out _
      have hbX2 : Below wr.heap.size wr X := hX ▸ below_alloc (Below.refl _ _) _
      have HXB : Hid (X.heap[wr.heap.size]? = some (.cells d.cells.toArray 40 (0, 0))) := hX ▸ heap_alloc_new wr _
      have HOX := Lib.hid (own_below HOWN.out hbX2 (Nat.le_refl _))
      have HOWl : Hid (∀ g, Value.ownBlock (.slice ao m cp) = some g → g ≠ wr.heap.size) := fun g hg e => by have := (HOWN.out.lt g hg).2; omega
      have hm4 : m ≤ 4096 := by
       have h1 := edges_len h (h.take k)
       have h2 := HM.out
       rw [List.length_take, HLEN.out] at h1
       have h3 : min k n * n ≤ 64 * 64 := Nat.mul_le_mul (by omega) hn64
       omega
      have hXw : w.heap.size ≤ wr.heap.size := HB.out.size
      have HX := Lib.hid hX
      have HBX := Lib.hid hbX
      have HSN := Lib.hid hsn
      have HD := Lib.hid hdm
      clear hd hdm hsn hX hbX hbX2
      go_upto_region 7 with fail
      rw [show wr.alloc (.cells #[.int .i64 d.num, .int .i64 d.m.s.session, .int .i64 d.m.s.seq, .int .i64 d.m.s.snap, .slice d.m.ra d.m.s.reads.length d.m.rc, .slice d.m.sa d.m.s.spans.length d.m.sc, .slice d.m.wa d.m.s.writes.length d.m.wc] 40) = X from HX.out.symm]
      clear e0 e1 e2 e3 e4 e5 e6 HX
      obtain ⟨XA, hXA⟩ : ∃ XA, XA = wr.heap.size := ⟨_, rfl⟩
      rw [← hXA] at HXB HOWl hXw ⊢
      have HM0 := HM
      clear hXA
      go_wp2_with fail
      go_loopg [3, 20] n (fun g s3 s20 wx => ∃ (j m2 : Nat) (ao2 : Option Addr) (cp2 : Nat), s20 = .int .i64 j ∧ j ≤ n ∧ g = n - j ∧ s3 = .slice ao2 m2 cp2 ∧ m2 ≤ m + j ∧ Hid (((h.take k).flatMap (edgesFrom h) ++ edgesFrom (h.take j) d).length = m2) ∧ Hid (wx.ownsRow w.heap.size 134 2 (.slice ao2 m2 cp2) m2 (cellsE ((h.take k).flatMap (edgesFrom h) ++ edgesFrom (h.take j) d))) ∧ Hid (∀ g, Value.ownBlock (.slice ao2 m2 cp2) = some g → g ≠ XA) ∧ Hid (Below w.heap.size w wx) ∧ Hid (wx.heap[XA]? = some (.cells d.cells.toArray 40 (0, 0))))
      case atStart =>
       have e0 : edgesFrom (h.take 0) d = [] := rfl
       exact ⟨0, m, ao, cp, rfl, Nat.zero_le _, rfl, rfl, by omega, by show _ = _; rw [e0, List.append_nil]; exact HM.out, by show World.ownsRow _ _ _ _ _ _ _; rw [e0, List.append_nil]; exact HOX.out, HOWl.out, HBX.out, HXB.out⟩
      case round =>
       obtain ⟨j, m2, ao2, cp2, rfl, hj, rfl, rfl, hm2, HM2, HO2, HG2, HB2, HX2⟩ := hrel
       have hj0 : (0 : Int) ≤ (j : Int) := by omega
       have hnatj : ((j : Int)).toNat = j := by omega
       by_cases hltj : j < n
       · obtain ⟨f, hf⟩ : ∃ f, h[j]? = some f := ⟨_, List.getElem?_eq_getElem (by rw [HLEN.out]; exact hltj)⟩
         have hfm := List.mem_of_getElem? hf
         obtain ⟨b2, off2, hra, e0, e1, e2, e3, e4, e5, e6⟩ := done_at (HH.out.below HB2.out).row HLEN.out j hltj f hf
         simp only [Option.some.injEq, Addr.mk.injEq, and_true] at hra
         obtain ⟨rfl, rfl⟩ := hra
         have hjn : (j : Int) < (n : Int) := by omega
         have hsj : edgesFrom (h.take (j + 1)) d = edgesFrom (h.take j) d ++ (if leadsP d f then [(d.num, f.num)] else []) := by rw [take_snoc hf, edgesFrom_snoc]
         obtain ⟨Z, hZ⟩ : ∃ Z, Z = wr.alloc (.cells f.cells.toArray 40) := ⟨_, rfl⟩
         have hbZ : Below w.heap.size w Z := hZ ▸ below_alloc HB2.out _
         have hbZ2 : Below wr.heap.size wr Z := hZ ▸ below_alloc (Below.refl _ _) _
         have HZB : Hid (Z.heap[wr.heap.size]? = some (.cells f.cells.toArray 40 (0, 0))) := hZ ▸ heap_alloc_new wr _
         have HZA : Hid (Z.heap[XA]? = some (.cells d.cells.toArray 40 (0, 0))) := (hbZ2.block _ (lt_of_block HX2.out)).trans HX2.out
         have hle := leads_any d f (HRR.out d HD.out) (HRR.out f hfm) Z ((HH.out.ok d HD.out).below hbZ) ((HH.out.ok f hfm).below hbZ)
         obtain ⟨LD, hLD⟩ : ∃ LD, LD = leadsP d f := ⟨_, rfl⟩
         rw [← hLD] at hle hsj
         unfold DoneV.agg at hle
         have HLE := Lib.hid hle
         have HSJ := Lib.hid hsj
         have HZ := Lib.hid hZ
         have HBZ := Lib.hid hbZ
         have HOZ := Lib.hid (own_below HO2.out hbZ2 (Nat.le_refl _))
         obtain ⟨c0, c1, c2, c3, c4, c5, c6⟩ := done_block HZA.out
         obtain ⟨d0, d1, d2, d3, d4, d5, d6⟩ := done_block HZB.out
         clear hf hfm hsj hZ hbZ hbZ2 hle hLD
         go_upto_region 10 with fail
         rw [show wr.alloc (.cells #[.int .i64 f.num, .int .i64 f.m.s.session, .int .i64 f.m.s.seq, .int .i64 f.m.s.snap, .slice f.m.ra f.m.s.reads.length f.m.rc, .slice f.m.sa f.m.s.spans.length f.m.sc, .slice f.m.wa f.m.s.writes.length f.m.wc] 40) = Z from HZ.out.symm]
         clear e0 e1 e2 e3 e4 e5 e6 HZ
         go_wp2_with fail
         refine HLE.out.mono ?_
         rintro e w3 ⟨rfl, hb3⟩
         have HB3 := Lib.hid (below_then HBZ.out hb3)
         have HO3 := Lib.hid (own_below HOZ.out hb3 (Nat.le_refl _))
         have HA3 : Hid (w3.heap[XA]? = _) := (hb3.block _ (lt_of_block HZA.out)).trans HZA.out
         have HF3 : Hid (w3.heap[wr.heap.size]? = _) := (hb3.block _ (lt_of_block HZB.out)).trans HZB.out
         clear hb3 c0 c1 c2 c3 c4 c5 c6 d0 d1 d2 d3 d4 d5 d6
         have c0 := (done_block HA3.out).1
         have d0 := (done_block HF3.out).1
         cases LD with
         | false =>
           have HSJ2 : Hid (edgesFrom (h.take (j + 1)) d = edgesFrom (h.take j) d) := by show _ = _; rw [HSJ.out]; simp
           clear HSJ
           go_wp2_with fail
           go_roundg (n - (j + 1))
           case measure => omega
           case rel => exact ⟨j + 1, m2, ao2, cp2, by go_num, by omega, rfl, rfl, by omega, by show _ = _; rw [HSJ2.out]; exact HM2.out, by show World.ownsRow _ _ _ _ _ _ _; rw [HSJ2.out]; exact HO3.out, HG2.out, HB3.out, HA3.out⟩
         | true =>
           have HSJ2 : Hid (edgesFrom (h.take (j + 1)) d = edgesFrom (h.take j) d ++ [(d.num, f.num)]) := by show _ = _; rw [HSJ.out]; simp
           clear HSJ
           have hws : w.heap.size ≤ w3.heap.size := HB3.out.size
           have hXl : XA < w3.heap.size := lt_of_block HA3.out
           go_wp2_with (at_builtin; refine wpList_appendE rfl (.tmp 27) (.tmp 33) rfl w.heap.size ao2 m2 cp2 (cellsE ((h.take k).flatMap (edgesFrom h) ++ edgesFrom (h.take j) d)) rfl (own_keep HO3.out fun g _ hl => alloc_far rfl hl) (some ⟨w3.heap.size, 0, none⟩) 1 1 (cellsE [(d.num, f.num)]) rfl (RowN.newH _ _ _ 2 1 _ _ rfl rfl rfl) (fun h => by cases h) (cellsE_one _) (by omega) (by simp; omega) (m2 + 1) rfl ?_; intro ao3 cp3 w4 hown4 hg4 hat4)
           have hbz := below_alloc HB3.out (.cells #[.int .i64 d.num, .int .i64 f.num] 134)
           go_roundg (n - (j + 1))
           case measure => omega
           case rel =>
            refine ⟨j + 1, m2 + 1, ao3, cp3, by go_num, by omega, rfl, rfl, by omega, ?_, ?_, ?_, hbz.grown hg4 hbz.size (fun g hg => (HO3.out.lt g hg).1), ?_⟩
            · show _ = _
              rw [HSJ2.out, ← List.append_assoc, List.length_append, HM2.out]; rfl
            · show World.ownsRow _ _ _ _ _ _ _
              rw [HSJ2.out, ← List.append_assoc, cellsE_app]; exact hown4
            · intro g hg
              rcases hat4 with h4 | h4
              · rw [h4] at hg; exact HG2.out g hg
              · rw [h4] at hg
                have := Option.some.inj hg
                simp only [World.size_alloc] at this
                omega
            · show _ = _
              refine (hg4.block XA (by simp; omega) (fun e => HG2.out XA e.symm rfl)).trans ?_
              exact alloc_keep HA3.out _
       · obtain rfl : j = n := by omega
         have hHM := HM2.out
         have hHO := HO2.out
         rw [show h.take j = h from List.take_of_length_le (by rw [HLEN.out]; exact Nat.le_refl _), ← HSN.out] at hHM hHO
         have HM5 := Lib.hid hHM
         have HO5 := Lib.hid hHO
         clear hHM hHO
         go_wp2_with fail
         go_roundg (j - (k + 1))
         case measure => omega
         case rel => exact ⟨k + 1, m2, ao2, cp2, by go_num, by omega, rfl, rfl, HM5.out, HO5.out, HB2.out⟩
    · obtain rfl : k = n := by omega
      have hHM := HM.out
      have hHO := HOWN.out
      rw [show h.take k = h from List.take_of_length_le (by rw [HLEN.out]; exact Nat.le_refl _), ← HE.out] at hHM hHO
      have HM5 := Lib.hid hHM
      have HO5 := Lib.hid hHO
      clear hHM hHO
      go_wp2_with fail
      go_ret
      exact ⟨ao, cp, by rw [HM5.out]; rfl, by rw [HM5.out]; exact HO5.out, HB.out⟩
end Go.Proofs.YtpknmfmpiachkaaGreat
namespace Go.Proofs.YtpknmfmpiachkaaGreat
open Go.RowKit
def RetDelI (w : World) (base g n cap : Nat) (L : List Int) (e : Ending) (w' : World) : Prop :=
 e = .returned (.slice (some ⟨g, 0, none⟩) n cap) ∧ w'.ownsRow base 2 1 (.slice (some ⟨g, 0, none⟩) n cap) n (cellsI L) ∧ w.grownBy w' (some g)
theorem cellsI_take (l : List Int) (i : Nat) : cellsI (l.take i) = (cellsI l).take i := by unfold cellsI; rw [List.map_take]
theorem cellsI_drop (l : List Int) (i : Nat) : cellsI (l.drop i) = (cellsI l).drop i := by unfold cellsI; rw [List.map_drop]
theorem erase_cells (l : List Int) (i : Nat) : cellsI (l.eraseIdx i) = (cellsI l).take i ++ (cellsI l).drop (i + 1) := by
 rw [List.eraseIdx_eq_take_drop_succ, cellsI_app, cellsI_take, cellsI_drop]
set_option maxRecDepth 100000 in
set_option maxHeartbeats 6400000 in
theorem delI_any (base g n cap i : Nat) (l : List Int) (hl : l.length = n + 1) (hi : i ≤ n) (hn : n ≤ 1000) (w : World) (h : w.ownsRow base 2 1 (.slice (some ⟨g, 0, none⟩) (n + 1) cap) (n + 1) (cellsI l)) :
 Calls Tryz.prog 66 #[.slice (some ⟨g, 0, none⟩) (n + 1) cap, .int .i64 (i : Nat), .int .i64 ((i : Int) + 1)] w (RetDelI w base g n cap (l.eraseIdx i)) := by
 obtain ⟨i0, hinf, hz0, hz1, hz2⟩ := info_parts info_int64
 obtain ⟨hlen, hown⟩ := h
 rcases hown with ⟨h9, _⟩ | ⟨g', cp, cur, h9, h10, h11, h12, h13, h14, h15⟩
 · cases h9
 simp only [Value.slice.injEq, Option.some.injEq, Addr.mk.injEq, and_true, true_and] at h9
 obtain ⟨rfl, rfl⟩ := h9
 obtain ⟨cur, rfl⟩ : ∃ l : List Value, cur = l.toArray := ⟨cur.toList, by simp⟩
 rw [List.size_toArray, Nat.mul_one] at h14
 rw [Nat.mul_one] at h15 hlen
 have h15' : cur.take (n + 1) = cellsI l := h15
 obtain ⟨news, hnews⟩ : ∃ news, news = (cellsI l).drop (i + 1) := ⟨_, rfl⟩
 have hnl : news.length = n - i := by rw [hnews, List.length_drop, cellsI_len, hl]; omega
 have hcur : ∀ j, j < cur.length → (w.cell? ⟨g, j, none⟩).isSome = true ∧ w.frozen? ⟨g, j, none⟩ = false := by
  intro j hj
  constructor
  · simp only [World.cell?, h11]
    simp [hj]
  · simp [World.frozen?, h11]
 have hcell : ∀ j u, news[j]? = some u → w.cell? ⟨g, i + 1 + j, none⟩ = some u := by
  intro j u hu
  rw [hnews, List.getElem?_drop, ← h15', List.getElem?_take] at hu
  split at hu
  · simp only [World.cell?, h11]
    simpa using hu
  · cases hu
 obtain ⟨A, hA, hsrc⟩ : ∃ A : Addr, (if cap = i + 1 then some (⟨g, 0, none⟩ : Addr) else some ⟨g, i + 1, none⟩) = some A ∧ Hid (∀ t u, news[t]? = some u → w.drew.cell? (A.add t) = some u) := by
  by_cases hc : cap = i + 1
  · refine ⟨⟨g, 0, none⟩, by simp [hc], fun t u hu => ?_⟩
    have h0 : news = [] := List.eq_nil_of_length_eq_zero (by omega)
    rw [h0] at hu
    cases hu
  · exact ⟨⟨g, i + 1, none⟩, by simp [hc], fun t u hu => by rw [add_plain]; exact hcell t u hu⟩
 obtain ⟨W1, hW1⟩ : ∃ W1, W1 = w.drew.setCells g i news := ⟨_, rfl⟩
 have hB1 : W1.heap[g]? = some (.cells (splice cur i news).toArray 2 (0, 0)) := by
  rw [hW1]; exact setCells_block g _ (0, 0) _ i w.drew cur h11 (by omega)
 have hT1 : Touch [g] w W1 := by rw [hW1]; exact ((Touch.refl _ _).drew).trans (setCells_touch g _ _ _)
 have hl1 : (splice cur i news).length = cap := by unfold splice; simp only [List.length_append, List.length_take, List.length_drop]; omega
 have hthere1 : ∀ j, j < cap → (W1.cell? ⟨g, j, none⟩).isSome = true ∧ W1.frozen? ⟨g, j, none⟩ = false := by
  intro j hj
  constructor
  · simp only [World.cell?, hB1]
    simp [hl1, hj]
  · simp [World.frozen?, hB1]
 have hclear : ∀ ty, (Builtin.clear_ #[41] ty #[.slice (some ⟨g, n, none⟩) 1 (cap - n)]).run Tryz.prog W1 = .ok (.tuple #[]) (W1.setCells g n [.int .i64 0]) := fun ty =>
  run_clear_one W1 _ _ ty (.int .i64 0) [.int .i64 0] Tryz.underlying41 (fun w => by kernel_rfl) rfl (by decide) g n (cap - n) (fun j hj => (hthere1 _ (by simp at hj; omega)).1) (fun j hj => (hthere1 _ (by simp at hj; omega)).2)
 obtain ⟨W2, hW2⟩ : ∃ W2, W2 = W1.setCells g n [.int .i64 0] := ⟨_, rfl⟩
 have hB2 : W2.heap[g]? = some (.cells (splice (splice cur i news) n [.int .i64 0]).toArray 2 (0, 0)) := by
  rw [hW2]; exact setCells_block g _ (0, 0) _ _ W1 _ hB1 (by simp; omega)
 have hT2 : Touch [g] w W2 := by rw [hW2]; exact hT1.trans (setCells_touch g _ _ _)
 have hpost : RetDelI w base g n cap (l.eraseIdx i) (.returned (.slice (some ⟨g, 0, none⟩) n cap)) W2 := by
  refine ⟨rfl, ⟨by rw [cellsI_len, List.length_eraseIdx, hl, if_pos (by omega)]; omega, .inr ⟨g, cap, _, rfl, h10, hB2, by omega, h13, ?_, ?_⟩⟩, ⟨hT2.os, hT2.tape, hT2.output, hT2.size, fun k hk hne => hT2.block k hk (by simpa using fun e => hne (by rw [e]))⟩⟩
  · rw [List.size_toArray]
    unfold splice
    simp only [List.length_append, List.length_take, List.length_drop, List.length_singleton]
    omega
  · rw [Nat.mul_one, splice_take _ _ _ (by rw [hl1]; omega), erase_cells, ← hnews, ← h15', List.take_take, Nat.min_eq_left (by omega)]
    unfold splice
    rw [← List.append_assoc]
    exact List.take_left' (by rw [List.length_append, List.length_take]; omega)
 have mixed : Tryz.prog.follows .mixedOrders = true := by kernel_rfl
 have hic : i ≤ cap := by omega
 have hic1 : i + 1 ≤ cap := by omega
 have h1z : ((i : Int) + 1) ≤ (n : Int) + 1 := by omega
 have hnc : (n : Int) + 1 ≤ (cap : Int) := by omega
 have hcI : (i : Int) ≤ (cap : Int) := by omega
 have hcI1 : (i : Int) + 1 ≤ (cap : Int) := by omega
 have hiI : (0 : Int) ≤ (i : Int) := by omega
 have hiI1 : (0 : Int) ≤ (i : Int) + 1 := by omega
 have hnat : ((i : Int) + 1).toNat = i + 1 := by omega
 have hnei : ((i : Int) == (i : Int) + 1) = false := by simp; omega
 have hnin : i + (n - i) = n := by omega
 have hn1 : n + 1 - (i + 1) = n - i := by omega
 have HSRC := hsrc
 have HSPARE : Hid (∀ j, j < news.length → (w.drew.cell? ⟨g, 0 + i * 1 + j, none⟩).isSome = true ∧ w.drew.frozen? ⟨g, 0 + i * 1 + j, none⟩ = false) := fun j hj => by
  have := hcur (i + j) (by omega)
  simpa [Nat.zero_add, Nat.mul_one] using this
 have HCLEAR := Lib.hid hclear
 have HPOST := Lib.hid hpost
 have HW1 : Hid (W1 = w.drew.setCells g (0 + i * 1) news) := by show _ = _; rw [hW1, Nat.zero_add, Nat.mul_one]
 have HW2 := Lib.hid hW2
 have HFL : Hid (news.length = (n - i) * 1) := by show _ = _; omega
 have HONE : Hid (∀ u ∈ news, u.oneCell' = true) := fun u hu => cellsI_one l u (by rw [hnews] at hu; exact List.mem_of_mem_drop hu)
 have hcap : cap ≤ 9223372036854775807 := h13
 clear hsrc hclear hpost hW1 hW2 hB1 hB2 hT1 hT2 hl1 hthere1 hcell h15 h15' h11 h10 h14 hlen h13 hnews hnl hcur
 go_enter Tryz.func66, Tryz.ntmps66
 go_wp2_with fail
 go_region_law_o (refine step_append_room rfl (.tmp 22) (.tmp 25) 41 rfl 2 i0 1 Tryz.underlying41 hinf hz1 g 0 i cap (by simp [Act.eval, Act.put]) A (n - i) (cap - (i + 1)) news (by simp [Act.eval, Act.put]) HFL.out HSRC.out HONE.out (by omega) HSPARE.out ?_; rw [← HW1.out])
 have hq := HCLEAR.out
 have hcn : ¬ cap = n := by omega
 go_wp2
 rw [← HW2.out]
 go_ret
 exact HPOST.out
theorem delI2_any (base g N cap i : Nat) (l : List Int) (hl : l.length = N) (hi : i < N) (hn : N ≤ 1000) (w : World) (h : w.ownsRow base 2 1 (.slice (some ⟨g, 0, none⟩) N cap) N (cellsI l)) :
 Calls Tryz.prog 66 #[.slice (some ⟨g, 0, none⟩) N cap, .int .i64 (i : Nat), .int .i64 ((i : Int) + 1)] w (RetDelI w base g (N - 1) cap (l.eraseIdx i)) := by
 obtain ⟨n, rfl⟩ : ∃ n, N = n + 1 := ⟨N - 1, by omega⟩
 exact delI_any base g n cap i l hl (by omega) (by omega) w h
end Go.Proofs.YtpknmfmpiachkaaGreat
