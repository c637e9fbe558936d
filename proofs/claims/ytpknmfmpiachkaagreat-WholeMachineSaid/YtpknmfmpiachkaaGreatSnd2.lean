/- serial's Order and Stuck. -/
import Derived.Test.YtpknmfmpiachkaaGreatSer8
import Derived.Test.YtpknmfmpiachkaaGreatCert9
namespace Go.Proofs.YtpknmfmpiachkaaGreat
open Go.RowKit
def RetOrder (w : World) (h : List DoneV) (e : Ending) (w' : World) : Prop :=
 ∃ (o : List Int) (ro : RowV) (ok : Bool), e = .returned (.tuple #[ro.val, .bool ok]) ∧ o.length = ro.n ∧ RowN w' ro.a 1 ro.n (cellsI o) ∧ ro.n ≤ ro.c ∧ ro.c ≤ maxLen ∧ Below w.heap.size w w' ∧
  ((ok = true ∧ rightP h = true ∧ TopoOut (edgesP h) (h.map DoneV.num) o []) ∨ (ok = false ∧ o = [] ∧ (rightP h = false ∨ ∃ order left, left ≠ [] ∧ TopoOut (edgesP h) (h.map DoneV.num) order left)))
set_option maxRecDepth 100000 in
set_option maxHeartbeats 3200000 in
theorem order_any (a : Option Addr) (n cap : Nat) (h : List DoneV) (w : World) (hh : HistAt w a n cap h) :
 Calls Tryz.prog 10 #[.slice a n cap] w (RetOrder w h) := by
 have hs := sort_any a n cap h w hh
 have hr := fun W (hb : Below w.heap.size w W) => right_any a n cap h W (hh.below hb)
 obtain ⟨RT, hRT⟩ : ∃ RT, RT = rightP h := ⟨_, rfl⟩
 rw [← hRT] at hr
 have HS := Lib.hid hs
 have HR := Lib.hid hr
 have HRT := Lib.hid hRT
 clear hs hr hRT hh
 go_enter Tryz.func10, Tryz.ntmps10
 go_wp2_with fail
 refine HS.out.mono ?_
 rintro e w1 ⟨order, left, ⟨oa, on, oc⟩, ⟨la, ln, lc⟩, rfl, ho, hl, hro, hrl, hoc, hoc2, _, _, hb1, htop⟩
 dsimp only [RowV.val]
 simp only at ho hl hro hrl hoc hoc2
 have HB1 := Lib.hid hb1
 have HTOP := Lib.hid htop
 have HRO := Lib.hid hro
 have HO := Lib.hid ho
 have HL := Lib.hid hl
 clear hb1 htop hro hrl ho hl
 go_wp2_with fail
 refine (HR.out _ HB1.out).mono ?_
 rintro e w2 ⟨rfl, hb2⟩
 have HB2 := Lib.hid (below_then HB1.out hb2)
 have HRO2 := Lib.hid (HRO.out.below hb2)
 clear hb2
 cases RT with
 | false =>
   go_wp2_with fail
   go_ret2
   exact ⟨[], ⟨none, 0, 0⟩, false, rfl, rfl, RowN.nil _ _ _, Nat.le_refl _, by decide, HB2.out, .inr ⟨rfl, rfl, .inl HRT.out.symm⟩⟩
 | true =>
   have HT2 : Hid (TopoOut (edgesP h) (h.map DoneV.num) order left) := by have h0 := HTOP.out; rw [← HRT.out] at h0; exact h0
   by_cases h0 : ln = 0
   · subst h0
     have hle : left = [] := List.eq_nil_of_length_eq_zero HL.out
     subst hle
     go_wp2_with fail
     go_ret2
     exact ⟨order, ⟨oa, on, oc⟩, true, rfl, HO.out, HRO2.out, hoc, hoc2, HB2.out, .inl ⟨rfl, HRT.out.symm, HT2.out⟩⟩
   · have hpos : 0 < ln := by omega
     have hposI : (0 : Int) < (ln : Int) := by omega
     have hne : left ≠ [] := fun h => h0 (by rw [← HL.out, h]; rfl)
     have HNE := Lib.hid hne
     clear hne
     go_wp2_with fail
     go_ret2
     exact ⟨[], ⟨none, 0, 0⟩, false, rfl, rfl, RowN.nil _ _ _, Nat.le_refl _, by decide, HB2.out, .inr ⟨rfl, rfl, .inr ⟨order, left, HNE.out, HT2.out⟩⟩⟩
end Go.Proofs.YtpknmfmpiachkaaGreat
namespace Go.Proofs.YtpknmfmpiachkaaGreat
open Go.RowKit Go.Lib
def one64 : Nat := 4607182418800017408
theorem sortF_nil : sortF [] = [] := by
 unfold sortF srtF
 rw [List.map_nil, List.mergeSort_nil]
 rfl
theorem sortF_one (x : Nat) (h : x < 18446744073709551616) : sortF [x] = [Flo.canon x] := by
 unfold sortF srtF
 rw [List.map_cons, List.map_nil, List.mergeSort_singleton, List.length_singleton, compactUpTo_all _ _ (keeps_lt_one _)]
 show [(toCF x).1] = _
 rw [toCF_val x h]
theorem normS_nil : normS [] = [] := by
 unfold normS sortG allS
 rw [List.map_nil, List.filter_nil, List.mergeSort_nil]
 rfl
theorem one_ok : KeyOk one64 := by unfold KeyOk one64; decide
theorem sndC_edges (d : DoneV) : edgesP [d] = [] := by
 unfold edgesP edgesFrom
 split
 · simp [leadsP]
 · rfl
theorem sndC_left {d : DoneV} {order left : List Int} (h : TopoOut (edgesP [d]) ([d].map DoneV.num) order left) : left = [] := by
 cases left with
 | nil => rfl
 | cons x r =>
   obtain ⟨e, he, _⟩ := h.stuck x (List.mem_cons_self ..)
   rw [sndC_edges] at he
   cases he
end Go.Proofs.YtpknmfmpiachkaaGreat
namespace Go.Proofs.YtpknmfmpiachkaaGreat
open Go.RowKit
end Go.Proofs.YtpknmfmpiachkaaGreat
