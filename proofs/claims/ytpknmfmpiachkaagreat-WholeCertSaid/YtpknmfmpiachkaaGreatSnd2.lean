/- serial's Order and Stuck. -/
import Derived.Test.YtpknmfmpiachkaaGreatSer8
import Derived.Test.YtpknmfmpiachkaaGreatCert9
namespace Go.Proofs.YtpknmfmpiachkaaGreat
open Go.RowKit

def RetOrder (w : World) (h : List DoneV) (e : Ending) (w' : World) : Prop :=
  ∃ (o : List Int) (ro : RowV) (ok : Bool), e = .returned (.tuple #[ro.val, .bool ok]) ∧ o.length = ro.n ∧ RowN w' ro.a 1 ro.n (cellsI o) ∧ ro.n ≤ ro.c ∧ ro.c ≤ maxLen ∧ Below w.heap.size w w' ∧
    ((ok = true ∧ rightP h = true ∧ TopoOut (edgesP h) (h.map DoneV.num) o []) ∨ (ok = false ∧ o = [] ∧ (rightP h = false ∨ ∃ order left, left ≠ [] ∧ TopoOut (edgesP h) (h.map DoneV.num) order left)))
set_option maxRecDepth 100000 in
set_option maxHeartbeats 3200000 in
theorem order_any (a : Option Addr) (n cap : Nat) (h : List DoneV) (w : World) (hh : HistAt w a n cap h) :
    Calls Tryz.prog 10 #[.slice a n cap] w (RetOrder w h) := by
  have hs := sort_any a n cap h w hh
  have hr := fun W (hb : Below w.heap.size w W) => right_any a n cap h W (hh.below hb)
  obtain ⟨RT, hRT⟩ : ∃ RT, RT = rightP h := ⟨_, rfl⟩
  rw [← hRT] at hr
  have HS := Lib.hid hs
  have HR := Lib.hid hr
  have HRT := Lib.hid hRT
  clear hs hr hRT hh
  go_enter Tryz.func10, Tryz.ntmps10
  go_wp2_with fail
  refine HS.out.mono ?_
  rintro e w1 ⟨order, left, ⟨oa, on, oc⟩, ⟨la, ln, lc⟩, rfl, ho, hl, hro, hrl, hoc, hoc2, _, _, hb1, htop⟩
  dsimp only [RowV.val]
  simp only at ho hl hro hrl hoc hoc2
  have HB1 := Lib.hid hb1
  have HTOP := Lib.hid htop
  have HRO := Lib.hid hro
  have HO := Lib.hid ho
  have HL := Lib.hid hl
  clear hb1 htop hro hrl ho hl
  go_wp2_with fail
  refine (HR.out _ HB1.out).mono ?_
  rintro e w2 ⟨rfl, hb2⟩
  have HB2 := Lib.hid (below_then HB1.out hb2)
  have HRO2 := Lib.hid (HRO.out.below hb2)
  clear hb2
  cases RT with
  | false =>
    go_wp2_with fail
    go_ret2
    exact ⟨[], ⟨none, 0, 0⟩, false, rfl, rfl, RowN.nil _ _ _, Nat.le_refl _, by decide, HB2.out, .inr ⟨rfl, rfl, .inl HRT.out.symm⟩⟩
  | true =>
    have HT2 : Hid (TopoOut (edgesP h) (h.map DoneV.num) order left) := by have h0 := HTOP.out; rw [← HRT.out] at h0; exact h0
    by_cases h0 : ln = 0
    · subst h0
      have hle : left = [] := List.eq_nil_of_length_eq_zero HL.out
      subst hle
      go_wp2_with fail
      go_ret2
      exact ⟨order, ⟨oa, on, oc⟩, true, rfl, HO.out, HRO2.out, hoc, hoc2, HB2.out, .inl ⟨rfl, HRT.out.symm, HT2.out⟩⟩
    · have hpos : 0 < ln := by omega
      have hposI : (0 : Int) < (ln : Int) := by omega
      have hne : left ≠ [] := fun h => h0 (by rw [← HL.out, h]; rfl)
      have HNE := Lib.hid hne
      clear hne
      go_wp2_with fail
      go_ret2
      exact ⟨[], ⟨none, 0, 0⟩, false, rfl, rfl, RowN.nil _ _ _, Nat.le_refl _, by decide, HB2.out, .inr ⟨rfl, rfl, .inr ⟨order, left, HNE.out, HT2.out⟩⟩⟩
def RetStuck (w : World) (h : List DoneV) (e : Ending) (w' : World) : Prop :=
  ∃ (order left : List Int) (rl : RowV), e = .returned rl.val ∧ left.length = rl.n ∧ RowN w' rl.a 1 rl.n (cellsI left) ∧ Below w.heap.size w w' ∧ (if rightP h then TopoOut (edgesP h) (h.map DoneV.num) order left else order = [] ∧ left = [])
set_option maxRecDepth 100000 in
set_option maxHeartbeats 3200000 in
theorem stuck_any (a : Option Addr) (n cap : Nat) (h : List DoneV) (w : World) (hh : HistAt w a n cap h) :
    Calls Tryz.prog 13 #[.slice a n cap] w (RetStuck w h) := by
  have HS := Lib.hid (sort_any a n cap h w hh)
  clear hh
  go_enter Tryz.func13, Tryz.ntmps13
  go_wp2_with fail
  refine HS.out.mono ?_
  rintro e w1 ⟨order, left, ⟨oa, on, oc⟩, ⟨la, ln, lc⟩, rfl, ho, hl, hro, hrl, hoc, hoc2, _, _, hb1, htop⟩
  dsimp only [RowV.val]
  have HFIN : Hid (RetStuck w h (.returned (.slice la ln lc)) w1) := ⟨order, left, ⟨la, ln, lc⟩, rfl, hl, hrl, hb1, htop⟩
  clear ho hl hro hrl hoc hoc2 hb1 htop
  go_wp2_with fail
  go_ret
  exact HFIN.out
end Go.Proofs.YtpknmfmpiachkaaGreat
namespace Go.Proofs.YtpknmfmpiachkaaGreat
open Go.RowKit Go.Lib

def one64 : Nat := 4607182418800017408
def two64 : Nat := 4611686018427387904
def sndA : SubP := ⟨1, 1, 0, [one64], [], [two64]⟩
def sndB : SubP := ⟨1, 2, 0, [two64], [], [one64]⟩
def sndC : SubP := ⟨1, 1, 0, [], [], []⟩
theorem sortF_nil : sortF [] = [] := by
  unfold sortF srtF
  rw [List.map_nil, List.mergeSort_nil]
  rfl
theorem sortF_one (x : Nat) (h : x < 18446744073709551616) : sortF [x] = [Flo.canon x] := by
  unfold sortF srtF
  rw [List.map_cons, List.map_nil, List.mergeSort_singleton, List.length_singleton, compactUpTo_all _ _ (keeps_lt_one _)]
  show [(toCF x).1] = _
  rw [toCF_val x h]
theorem normS_nil : normS [] = [] := by
  unfold normS sortG allS
  rw [List.map_nil, List.filter_nil, List.mergeSort_nil]
  rfl
theorem check_one (se sq : Int) (x y : Nat) (h1 : numP se 1 = true) (h2 : numP sq 1 = true) (hx : KeyOk x) (hy : KeyOk y) : checkP ⟨se, sq, 0, [x], [], [y]⟩ = 0 := by
  unfold checkP numbersP manyP orderP
  simp only [h1, h2, sortF_one x hx.1, sortF_one y hy.1, normS_nil, hx.2.2, hy.2.2, List.any_cons, List.any_nil, hx.2.1, hy.2.1]
  simp [numP, eqL, eqW]
theorem check_none (se sq : Int) (h1 : numP se 1 = true) (h2 : numP sq 1 = true) : checkP ⟨se, sq, 0, [], [], []⟩ = 0 := by
  unfold checkP numbersP manyP orderP
  simp only [h1, h2, sortF_nil, normS_nil, List.any_nil]
  simp [numP, eqL]
theorem one_ok : KeyOk one64 := by unfold KeyOk one64; decide
theorem two_ok : KeyOk two64 := by unfold KeyOk two64; decide
theorem sndA_check : checkP sndA = 0 := check_one 1 1 one64 two64 (by decide) (by decide) one_ok two_ok
theorem sndB_check : checkP sndB = 0 := check_one 1 2 two64 one64 (by decide) (by decide) two_ok one_ok
theorem sndC_check : checkP sndC = 0 := check_none 1 1 (by decide) (by decide)
/-- the first commits -/
theorem sndA_refuse : refuseP (newP 4 0) sndA = 0 := by
  unfold refuseP
  rw [sndA_check]
  decide
theorem sndA_least : decide (0 < (besideP (newP 4 0) sndA).least) = false := by decide
/-- then the second doesn't -/
theorem sndB_refuse (m' : SubM) (h : m'.s = sndA) : refuseP (commitP (newP 4 0) m' false) sndB = 112 := by
  obtain ⟨s, ra, rc, sa, sc, wa, wc⟩ := m'
  simp only at h
  subst h
  unfold refuseP
  rw [sndB_check]
  have hc : commitP (newP 4 0) ⟨sndA, ra, rc, sa, sc, wa, wc⟩ false = ⟨4, 0, 0, 1, 0, [⟨1, ⟨sndA, ra, rc, sa, sc, wa, wc⟩, false⟩], [], [], [], []⟩ := rfl
  rw [hc]
  have hb : besideP ⟨4, 0, 0, 1, 0, [⟨1, ⟨sndA, ra, rc, sa, sc, wa, wc⟩, false⟩], [], [], [], []⟩ sndB = ⟨false, false, 1, 1⟩ := by
    unfold besideP summaryP besideStep
    simp only [List.foldl_cons, List.foldl_nil]
    have h1 : meetsP sndB sndA = true := by decide
    have h2 : meetsP sndA sndB = true := by decide
    have h3 : (sndB.writes.any fun x => writesP sndA x) = false := by decide
    rw [h1, h2, h3]
    rfl
  rw [hb]
  rfl
/-- a history of one has an order -/
theorem sndC_right (d : DoneV) (hn : d.num = 1) (hs : d.m.s = sndC) : rightP [d] = true := by
  unfold rightP rightL rightL badAt
  rw [hs, sndC_check, hn]
  rfl
theorem sndC_edges (d : DoneV) : edgesP [d] = [] := by
  unfold edgesP edgesFrom
  split
  · simp [leadsP]
  · rfl
theorem sndC_left {d : DoneV} {order left : List Int} (h : TopoOut (edgesP [d]) ([d].map DoneV.num) order left) : left = [] := by
  cases left with
  | nil => rfl
  | cons x r =>
    obtain ⟨e, he, _⟩ := h.stuck x (List.mem_cons_self ..)
    rw [sndC_edges] at he
    cases he
end Go.Proofs.YtpknmfmpiachkaaGreat
namespace Go.Proofs.YtpknmfmpiachkaaGreat
open Go.RowKit

/-- a submission of one read and one written key, in blocks of its own -/
def sub1 (seq : Int) (x y H : Nat) : SubM := ⟨⟨1, seq, 0, [x], [], [y]⟩, some ⟨H, 0, none⟩, 1, none, 0, some ⟨H + 1, 0, none⟩, 1⟩
theorem sub1_ok (seq : Int) (x y H : Nat) (hx : x < 18446744073709551616) (hy : y < 18446744073709551616) (w Y : World) (hH : H = w.heap.size) (hY : Y = (w.alloc (.cells #[.float .f64 x] 63)).alloc (.cells #[.float .f64 y] 63)) : (sub1 seq x y H).ok Y := by
  refine ⟨⟨fun z hz => ?_, fun z hz => absurd hz List.not_mem_nil, fun z hz => ?_⟩, ?_, RowN.nil _ _ _, ?_, by simp [sub1], by simp [sub1], by simp [sub1]⟩
  · rw [List.mem_singleton.1 hz]; exact hx
  · rw [List.mem_singleton.1 hz]; exact hy
  · have h1 : Y.heap[H]? = some (.cells #[.float .f64 x] 63 (0, 0)) := by rw [hY, hH]; exact alloc_keep (heap_alloc_new w _) _
    exact RowN.of_block h1 rfl rfl
  · have h1 : Y.heap[H + 1]? = some (.cells #[.float .f64 y] 63 (0, 0)) := by rw [hY, hH]; exact alloc_new1 _ _ _
    exact RowN.of_block h1 rfl rfl
theorem sub1_away {κ : Nat → Nat} {w : World} (seq : Int) (x y H : Nat) (hH : w.heap.size ≤ H) (k : Nat) (hk : 0 < k) : Away (tint w κ 0) k (sub1 seq x y H) := by
  refine ⟨fun b off h _ => .inl ?_, fun b off h _ => (by cases h), fun b off h _ => .inl ?_⟩
  · simp only [sub1, Option.some.injEq, Addr.mk.injEq] at h
    rw [← h.1, tint_new hH]; exact hk
  · simp only [sub1, Option.some.injEq, Addr.mk.injEq] at h
    rw [← h.1, tint_new (by omega)]; exact hk

set_option maxRecDepth 100000 in
set_option maxHeartbeats 6400000 in
theorem sound_any (w : World) : Calls Tryz.prog 6 #[] w (RetBox w (.bool true)) := by
  have hnew := new_any (fun _ => 0) 10 4 0 w
  have HNEW := Lib.hid hnew
  clear hnew
  go_enter Tryz.func6, Tryz.ntmps6
  go_wp2_with fail
  refine HNEW.out.mono ?_
  rintro e w1 ⟨A, κ1, rfl, hA, hb1, hκ1, hC1⟩
  clear HNEW
  obtain ⟨Y, hY⟩ : ∃ Y, Y = (w1.alloc (.cells #[.float .f64 4607182418800017408] 63)).alloc (.cells #[.float .f64 4611686018427387904] 63) := ⟨_, rfl⟩
  have hbY : Below w1.heap.size w1 Y := hY ▸ below_alloc (below_alloc (Below.refl _ _) _) _
  have hcY := chg_tint (κ := κ1) (i := 0) hbY
  have hold : ∀ g, g < w.heap.size → tint w1 κ1 0 g = 0 := fun g hg => (tint_old (Nat.lt_of_lt_of_le hg hb1.size)).trans (hκ1 g hg)
  have hd1 := decide_any (tint w1 κ1 0) 10 A (newP 4 0) (newP_ok 4 0) (sub1 1 one64 two64 w1.heap.size) Y (hC1.chg hcY (fun _ h => h.elim)) (sub1_ok 1 _ _ _ one_ok.1 two_ok.1 w1 Y rfl hY) (sub1_away 1 _ _ _ (Nat.le_refl _) 10 (by decide))
  have HBY := Lib.hid (below_then hb1 hbY)
  have HOLD := Lib.hid hold
  have HD1 := Lib.hid hd1
  have HY := Lib.hid hY
  clear hA hb1 hκ1 hC1 hbY hcY hold hd1 hY
  go_wp2_with fail
  rw [← HY.out]
  clear HY
  refine HD1.out.mono ?_
  rintro e w2 ⟨κ2, c2, code, num, rfl, hc2, hC2, hst⟩
  have hok2 : c2.Ok := hst.ok (newP_ok 4 0) ⟨fun z hz => by rw [List.mem_singleton.1 hz]; exact one_ok.1, fun z hz => absurd hz List.not_mem_nil, fun z hz => by rw [List.mem_singleton.1 hz]; exact two_ok.1⟩
  obtain ⟨m', hm', rfl, rfl, hcc⟩ : ∃ m' : SubM, m'.s = sndA ∧ code = 0 ∧ num = 1 ∧ c2 = commitP (newP 4 0) m' false := by
    obtain ⟨h1, h2⟩ := hst
    have h0 : code = 0 := h1.trans sndA_refuse
    rcases h2 with ⟨h3, _⟩ | ⟨_, h4, m', h5, h6⟩
    · exact absurd h0 h3
    · exact ⟨m', h5, h0, h4, by rw [h6]; congr 1⟩
  have hb2 : Below w.heap.size w w2 := hc2.below HBY.out fun g hg => by rw [HOLD.out g hg]; omega
  have hold2 : ∀ g, g < w.heap.size → κ2 g = 0 := fun g hg => (hc2.paint g (Nat.lt_of_lt_of_le hg HBY.out.size)).trans (HOLD.out g hg)
  clear hc2 hst HBY HOLD HD1
  -- the first's verdict, the second's keys
  obtain ⟨Z, hZ⟩ : ∃ Z, Z = w2.alloc (.cells #[.int .i64 0, .int .i64 1] 35) := ⟨_, rfl⟩
  have hbZ : Below w2.heap.size w2 Z := hZ ▸ below_alloc (Below.refl _ _) _
  have hZV : Z.heap[w2.heap.size]? = some (.cells #[.int .i64 0, .int .i64 1] 35 (0, 0)) := hZ ▸ heap_alloc_new w2 _
  obtain ⟨X, hX⟩ : ∃ X, X = (Z.alloc (.cells #[.float .f64 4611686018427387904] 63)).alloc (.cells #[.float .f64 4607182418800017408] 63) := ⟨_, rfl⟩
  have hbX0 : Below Z.heap.size Z X := hX ▸ below_alloc (below_alloc (Below.refl _ _) _) _
  have hbX : Below w2.heap.size w2 X := below_then hbZ hbX0
  have hXV : X.heap[w2.heap.size]? = some (.cells #[.int .i64 0, .int .i64 1] 35 (0, 0)) := (hbX0.block _ (lt_of_block hZV)).trans hZV
  have hcX := chg_tint (κ := κ2) (i := 0) hbX
  have hold3 : ∀ g, g < w.heap.size → tint w2 κ2 0 g = 0 := fun g hg => (tint_old (Nat.lt_of_lt_of_le hg hb2.size)).trans (hold2 g hg)
  have hcolV : tint w2 κ2 0 w2.heap.size = 0 := tint_new (Nat.le_refl _)
  have hd2 := decide_any (tint w2 κ2 0) 10 A c2 hok2 (sub1 2 two64 one64 Z.heap.size) X (hC2.chg hcX (fun _ h => h.elim)) (sub1_ok 2 _ _ _ two_ok.1 one_ok.1 Z X rfl hX) (sub1_away 2 _ _ _ hbZ.size 10 (by decide))
  have hrf : refuseP c2 sndB = 112 := by rw [hcc]; exact sndB_refuse m' hm'
  have HBX := Lib.hid (below_then hb2 hbX)
  have HOLD := Lib.hid hold3
  have HD2 := Lib.hid hd2
  have HZ := Lib.hid hZ
  have HX := Lib.hid hX
  have HXV := Lib.hid hXV
  have HCV := Lib.hid hcolV
  have HRF := Lib.hid hrf
  obtain ⟨V1, hV1⟩ : ∃ V1, V1 = w2.heap.size := ⟨_, rfl⟩
  have HV1 := Lib.hid hV1
  rw [← hV1] at HXV HCV
  clear hC2 hok2 hm' hcc hb2 hold2 hbZ hZV hbX0 hbX hXV hcX hold3 hcolV hd2 hZ hX hrf hV1
  go_upto_region 5 with fail
  rw [← HZ.out, ← HV1.out]
  go_wp2_with fail
  rw [← HX.out]
  clear HZ HX
  refine HD2.out.mono ?_
  rintro e w3 ⟨κ3, c3, code, num, rfl, hc3, hC3, hst⟩
  obtain rfl : code = 112 := hst.1.trans HRF.out
  have hb3 : Below w.heap.size w w3 := hc3.below HBX.out fun g hg => by rw [HOLD.out g hg]; omega
  have hV3 : w3.heap[V1]? = some (.cells #[.int .i64 0, .int .i64 1] 35 (0, 0)) := (hc3.block V1 (lt_of_block HXV.out) (by rw [HV1.out, ← HV1.out, HCV.out]; omega)).trans HXV.out
  clear hc3 hC3 hst HBX HOLD HD2 HXV HCV HRF
  -- the second's verdict, the history of one
  obtain ⟨D, hD⟩ : ∃ D : DoneV, D = ⟨1, ⟨sndC, none, 0, none, 0, none, 0⟩⟩ := ⟨_, rfl⟩
  obtain ⟨U, hU⟩ : ∃ U, U = w3.alloc (.cells #[.int .i64 112, .int .i64 num] 35) := ⟨_, rfl⟩
  obtain ⟨T, hT⟩ : ∃ T, T = U.alloc (.cells #[.int .i64 1, .int .i64 1, .int .i64 1, .int .i64 0, .slice none 0 0, .slice none 0 0, .slice none 0 0] 40) := ⟨_, rfl⟩
  have hU2 : U.heap[w3.heap.size]? = some (.cells #[.int .i64 112, .int .i64 num] 35 (0, 0)) := hU ▸ heap_alloc_new w3 _
  have hU1 : U.heap[V1]? = some (.cells #[.int .i64 0, .int .i64 1] 35 (0, 0)) := hU ▸ alloc_keep hV3 _
  have hT2 : T.heap[w3.heap.size]? = some (.cells #[.int .i64 112, .int .i64 num] 35 (0, 0)) := hT ▸ alloc_keep hU2 _
  have hT1 : T.heap[V1]? = some (.cells #[.int .i64 0, .int .i64 1] 35 (0, 0)) := hT ▸ alloc_keep hU1 _
  have hTD : T.heap[U.heap.size]? = some (.cells #[.int .i64 1, .int .i64 1, .int .i64 1, .int .i64 0, .slice none 0 0, .slice none 0 0, .slice none 0 0] 40 (0, 0)) := hT ▸ heap_alloc_new U _
  have hhist : HistAt T (some ⟨U.heap.size, 0, none⟩) 1 1 [D] := by
    refine ⟨rfl, ?_, fun d hd => ?_, Nat.le_refl _, by decide⟩
    · rw [hD]; exact RowN.of_block hTD rfl rfl
    · rw [List.mem_singleton.1 hd, hD]
      exact ⟨⟨fun z hz => absurd hz List.not_mem_nil, fun z hz => absurd hz List.not_mem_nil, fun z hz => absurd hz List.not_mem_nil⟩, RowN.nil _ _ _, RowN.nil _ _ _, RowN.nil _ _ _, by decide, by decide, by decide⟩
  have hord := order_any (some ⟨U.heap.size, 0, none⟩) 1 1 [D] T hhist
  have hbT : Below w.heap.size w T := hT ▸ below_alloc (hU ▸ below_alloc hb3 _) _
  have HORD := Lib.hid hord
  have HBT := Lib.hid hbT
  have HU := Lib.hid hU
  have HT := Lib.hid hT
  have HT1 := Lib.hid hT1
  have HT2 := Lib.hid hT2
  have hDn : D.num = 1 := by rw [hD]
  have hDs : D.m.s = sndC := by rw [hD]
  have HDR := Lib.hid (sndC_right D hDn hDs)
  clear hb3 hV3 hU2 hU1 hT1 hT2 hTD hhist hord hbT hU hT hD hDn hDs
  go_upto_region 6 with fail
  rw [← HU.out]
  go_wp2_with fail
  rw [← HT.out]
  clear HU HT
  refine HORD.out.mono ?_
  rintro e w4 ⟨o, ⟨oa, on, oc⟩, ok, rfl, _, _, _, _, hb4, hcas⟩
  dsimp only [RowV.val]
  obtain rfl : ok = true := by
    rcases hcas with ⟨h, _⟩ | ⟨_, _, h | ⟨order, left, hne, htop⟩⟩
    · exact h
    · rw [HDR.out] at h; cases h
    · exact absurd (sndC_left htop) hne
  have v1 := (two_cells ((hb4.block _ (lt_of_block HT1.out)).trans HT1.out)).2.1
  have v2 := (two_cells ((hb4.block _ (lt_of_block HT2.out)).trans HT2.out)).1
  have HB4 := Lib.hid (below_then HBT.out hb4)
  clear hcas hb4 HT1 HT2
  go_wp2_with fail
  go_ret
  exact ⟨rfl, HB4.out⟩
end Go.Proofs.YtpknmfmpiachkaaGreat
