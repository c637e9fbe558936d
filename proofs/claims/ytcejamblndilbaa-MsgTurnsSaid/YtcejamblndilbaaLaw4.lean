/- MsgTurns: the walk. -/
import Derived.Test.YtcejamblndilbaaLaw3
namespace Go.Proofs.Ytcejamblndilbaa
open Go.RowKit

theorem decP_turned {p : List UInt8} (h : p.length ≤ 4096) {i : Nat} (hi : i < (Fr.frame p).length) {t : UInt8} (ht : (Fr.frame p)[i] ≠ t) : decP ((Fr.frame p).set i t) = none := by
  obtain ⟨h1, h2⟩ := Fr.unframe_turned p i t h hi ht
  unfold decP
  rw [if_neg]
  rintro ⟨a, b⟩
  by_cases h4 : 4 ≤ i
  · rw [h1 h4] at a; cases a
  · rcases h2 (by omega) with c | c
    · exact c a
    · rw [b, List.length_set] at c; omega

set_option maxRecDepth 100000 in
set_option maxHeartbeats 16000000 in
theorem msgTurns_walk (m : Ms) (at_ to_ : Int) (w : World) (hm : MsOk w m) (hcl : CLen m) (_wa : (Lit.int .i64 at_).wf = true) (wt : (Lit.int .u8 to_).wf = true) :
    Calls Try.prog 6 #[.agg m.cs, .int .i64 at_, .int .u8 to_] w fun e w' => e = .returned (.bool true) ∧ Below w.heap.size w w' := by
  obtain ⟨x, rfl⟩ : ∃ x : UInt8, to_ = ((x.toNat : Nat) : Int) := by
    have hb : 0 ≤ to_ ∧ to_ ≤ 255 := by simpa [Lit.wf, IntKind.min, IntKind.max, IntKind.signed, IntKind.bits] using wt
    exact ⟨UInt8.ofNat to_.toNat, by rw [UInt8.toNat_ofNat']; omega⟩
  clear wt
  obtain ⟨k, hk, hk8⟩ := masked at_
  obtain ⟨post, hpost⟩ : ∃ post : Ending → World → Prop, post = fun e w' => e = .returned (.bool true) ∧ Below w.heap.size w w' := ⟨_, rfl⟩
  rw [← hpost]
  have hP : ∀ w', Below w.heap.size w w' → post (.returned (.bool true)) w' := fun w' h => by rw [hpost]; exact ⟨rfl, h⟩
  have HP := Lib.hid hP
  obtain ⟨X, hX⟩ : ∃ X, X = w.alloc (.cells m.cs 28) := ⟨_, rfl⟩
  have hXb : Below w.heap.size w X := hX ▸ below_alloc (Below.refl _ _) _
  have hXc : X.heap[w.heap.size]? = some (.cells m.cs 28 (0, 0)) := hX ▸ heap_alloc_new w _
  have HX := Lib.hid hX
  have HXB := Lib.hid hXb
  have HXC := Lib.hid hXc
  have HM := Lib.hid hm
  have HCL := Lib.hid hcl
  clear hpost hP hX hXb hXc hm hcl
  go_enter Try.func6, Try.ntmps6
  go_upto_region 1 with fail
  rw [← HX.out]
  go_wp2_with fail
  refine (alive17_any X).mono ?_
  rintro e w1 ⟨rfl, hb1⟩
  have hB1 := below_then HXB.out hb1
  have hc1 := (hb1.block _ (Array.getElem?_eq_some_iff.1 HXC.out).1).trans HXC.out
  have henc := encode_any m w1 (HM.out.below hB1) HCL.out
  have HB1 := Lib.hid hB1
  have HC1 := Lib.hid hc1
  have HENC := Lib.hid henc
  clear hb1 hB1 hc1 henc HXC
  go_upto_region 3 with fail
  go_wp2_with (first
    | (refine wpList_loadM rfl _ rfl w.heap.size m _ rfl HC1.out ?_))
  refine HENC.out.mono ?_
  rintro e w2 ⟨ao, cap, rfl, hown, hb2⟩
  have hc2 := (hb2.block _ (Array.getElem?_eq_some_iff.1 HC1.out).1).trans HC1.out
  have hB2 := below_then HB1.out hb2
  have hr2 := mright_any m w2 (HM.out.below hB2) HCL.out
  have HB2 := Lib.hid hB2
  have HR2 := Lib.hid hr2
  have HOW := Lib.hid hown
  have HC2 := Lib.hid hc2
  have hz12 := HB1.out.size
  have HZ12 := Lib.hid hz12
  clear hb2 hB2 hr2 hown hc2 HENC HC1 hz12
  cases hrm : rightM m with
  | false =>
    have henc : encOf m = ([], 1) := by rw [encOf, hrm]; rfl
    rw [hrm] at HR2
    rw [henc] at HOW ⊢
    simp only
    clear henc hrm HOW
    obtain ⟨a0, a1, a2, a3, a4, a5, a6, a7, a8, a9, a10, a11, a12, a13⟩ := ms_cells HC2.out
    go_wp2_with fail
    refine HR2.out.mono ?_
    rintro e w3 ⟨rfl, hb3⟩
    have HB3 := Lib.hid (below_then HB2.out hb3)
    clear hb3 a0 a1 a2 a3 a4 a5 a6 a7 a8 a9 a10 a11 a12 a13
    go_wp2_with fail
    exact HP.out _ HB3.out
  | true =>
  rw [hrm] at HR2
  by_cases hl : (encM m).length ≤ 4096
  case neg =>
    have henc : encOf m = ([], 2) := by rw [encOf, hrm, if_pos rfl, framed_no hl]
    rw [henc] at HOW ⊢
    simp only
    clear henc hrm HOW hl
    obtain ⟨a0, a1, a2, a3, a4, a5, a6, a7, a8, a9, a10, a11, a12, a13⟩ := ms_cells HC2.out
    go_wp2_with fail
    refine HR2.out.mono ?_
    rintro e w3 ⟨rfl, hb3⟩
    have HB3 := Lib.hid (below_then HB2.out hb3)
    clear hb3 a0 a1 a2 a3 a4 a5 a6 a7 a8 a9 a10 a11 a12 a13
    go_wp2_with fail
    exact HP.out _ HB3.out
  obtain ⟨p, hp⟩ : ∃ p, p = encM m := ⟨_, rfl⟩
  obtain ⟨f, hf⟩ : ∃ f, f = Fr.frame p := ⟨_, rfl⟩
  obtain ⟨len, hlen⟩ : ∃ len, len = f.length := ⟨_, rfl⟩
  have henc : encOf m = (f, 0) := by rw [encOf, hrm, if_pos rfl, framed_yes hl, hf, hp]
  rw [henc] at HOW ⊢
  simp only at HOW ⊢
  rw [← hlen] at HOW ⊢
  rw [← hp] at hl
  have hl8 : 8 ≤ len := by rw [hlen, hf, Fr.frame_length]; omega
  have hl9 : len ≤ 5000 := by rw [hlen, hf, Fr.frame_length]; omega
  have HPL := Lib.hid hl
  have HF := Lib.hid hf
  have HLEN := Lib.hid hlen
  clear henc hrm hl hp hf hlen HR2
  obtain ⟨g, rfl, hg1, hg2⟩ := HOW.out.addr (by omega)
  have hkl : k % len < len := Nat.mod_lt _ (by omega)
  have hkl' : (k : Int) % (len : Int) < (len : Int) := Int.emod_lt_of_pos _ (by omega)
  have hkl0 : 0 ≤ (k : Int) % (len : Int) := Int.emod_nonneg _ (by omega)
  have hcast : (k : Int) % (len : Int) = ((k % len : Nat) : Int) := by rw [Int.natCast_emod]
  have htn : ((k : Int) % (len : Int)).toNat = k % len := by rw [hcast]; omega
  have hz : ((len : Int) == 0) = false := by simp; omega
  have hne0 : ¬ ((len : Int) = 0) := by omega
  have hpos : 1 ≤ (len : Int) := by omega
  obtain ⟨c, hc, hcb, hcell, hfr⟩ := HOW.out.at (k % len) hkl
  clear hcast
  by_cases hcx : c = x.toNat
  · have hcx' : ((c : Int) == ((x.toNat : Nat) : Int)) = true := by simp; omega
    go_wp2_with fail
    exact HP.out _ HB2.out
  have hcx' : ((c : Int) == ((x.toNat : Nat) : Int)) = false := by simp; omega
  obtain ⟨i, hi⟩ : ∃ i, i = k % len := ⟨_, rfl⟩
  have hif : i < f.length := by rw [← HLEN.out, hi]; exact hkl
  have hfx : f[i] ≠ x := fun e => hcx (by
    have e2 := hcb.out
    rw [← hi, List.getD_eq_getElem?_getD, List.getElem?_eq_getElem hif] at e2
    rw [← e2, ← e]
    rfl)
  have hno : decP (f.set i x) = none := by
    have := decP_turned (p := p) HPL.out (i := i) (t := x) (by rw [← HF.out]; exact hif) (by simp only [← HF.out]; exact hfx)
    rw [HF.out]; exact this
  have how3 := HOW.out.store i x
  have hb3 : Below w.heap.size w (w2.setCell ⟨g, i, none⟩ (.int .u8 ((x.toNat : Nat) : Int))) := HB2.out.setCell (by show w.heap.size ≤ g; have := HZ12.out; omega) _
  have hdec := decode_any (some ⟨g, 0, none⟩) len cap (f.set i x) _ how3.row how3.cap.1 how3.cap.2
  rw [hi] at hdec hb3
  have HNO := Lib.hid hno
  have HI := Lib.hid hi
  have HB3 := Lib.hid hb3
  have HDEC := Lib.hid hdec
  clear hno hi hb3 hdec how3 hfx hif hcx
  go_wp2_with fail
  refine HDEC.out.mono ?_
  rintro e w5 ⟨m5, rfl, _, _, hb5⟩
  rw [← HI.out, HNO.out, if_pos rfl]
  have HB5 := Lib.hid (below_then HB3.out hb5)
  clear hb5 HDEC
  go_upto_region 11 with (first
    | (refine wpList_storeM rfl _ _ rfl w5.heap.size m5 zeroM rfl rfl _ (heap_alloc_new w5 _) ?_; intro w6 hd6 ht6; have HT6 := Lib.hid ht6; clear hd6 ht6))
  have hb6 : Below w.heap.size w w6 := below_of_touch (below_then HB5.out (below_alloc (Below.refl _ _) _)) HT6.out HB5.out.size
  have HB6 := Lib.hid hb6
  clear hb6 HT6 hkl hkl' hkl0 htn hz hne0 hpos hk hcell hfr
  go_wp2_with fail
  exact HP.out _ HB6.out
end Go.Proofs.Ytcejamblndilbaa
