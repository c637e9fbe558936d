/- MsgBack: the walk. -/
import Derived.Test.YtcejamblndilbaaAl2
namespace Go.Proofs.Ytcejamblndilbaa
open Go.RowKit

theorem and_mask (x : Int) (k : Nat) (hk : k ≤ 62) : bits .and .i64 x ((2 ^ k - 1 : Nat) : Int) = x % 2 ^ k := by
  have hp : 2 ^ k ≤ 2 ^ 62 := Nat.pow_le_pow_right (by decide) hk
  have hpos : 0 < 2 ^ k := Nat.two_pow_pos k
  show IntKind.i64.wrap ((BitVec.ofInt 64 x &&& BitVec.ofInt 64 ((2 ^ k - 1 : Nat) : Int)).toNat : Int) = _
  rw [BitVec.toNat_and, BitVec.ofInt_natCast, BitVec.toNat_ofNat, Nat.mod_eq_of_lt (a := 2 ^ k - 1) (by omega), Nat.and_two_pow_sub_one_eq_mod, BitVec.toNat_ofInt, IntKind.wrap_i64]
  have hd : ((2 ^ k : Nat) : Int) ∣ ((2 ^ 64 : Nat) : Int) := by
    refine Int.natCast_dvd_natCast.2 ⟨2 ^ (64 - k), ?_⟩
    rw [← Nat.pow_add]
    congr 1
    omega
  have h1 : ((x % ((2 ^ 64 : Nat) : Int)).toNat : Int) = x % ((2 ^ 64 : Nat) : Int) := Int.toNat_of_nonneg (Int.emod_nonneg _ (by decide))
  have h2 : (((x % ((2 ^ 64 : Nat) : Int)).toNat % 2 ^ k : Nat) : Int) = x % ((2 ^ k : Nat) : Int) := by
    rw [Int.natCast_emod, h1, Int.emod_emod_of_dvd _ hd]
  rw [h2]
  have h3 : 0 ≤ x % ((2 ^ k : Nat) : Int) := Int.emod_nonneg _ (by omega)
  have h4 : x % ((2 ^ k : Nat) : Int) < ((2 ^ k : Nat) : Int) := Int.emod_lt_of_pos _ (by omega)
  have h5 : ((2 ^ k : Nat) : Int) = 2 ^ k := by simp
  rw [← h5]
  omega

theorem masked (x : Int) : ∃ k : Nat, bits .and .i64 x 4095 = (k : Int) ∧ k < 4096 := by
  have h := and_mask x 12 (by decide)
  refine ⟨(x % 4096).toNat, ?_, by omega⟩
  have e : ((2 ^ 12 - 1 : Nat) : Int) = 4095 := by decide
  rw [e] at h
  rw [h]
  have : (2 : Int) ^ 12 = 4096 := by decide
  rw [this]
  omega
theorem decP_take {b : List UInt8} {x : Pm} (h : decP b = some x) {i : Nat} (hi : i < b.length) : decP (b.take i) = none := by
  obtain ⟨_, hb, hl⟩ := decP_back h
  have := Fr.unframe_begin (encP x) i hl (by rw [← hb]; exact hi)
  rw [← hb] at this
  unfold decP
  rw [this, if_neg (by simp)]
theorem enc_back {w : World} {m : Ms} {b : List UInt8} (hm : MsOk w m) (h : decP b = some m.plain) : encOf m = (b, 0) := by
  obtain ⟨hr, hb, hl⟩ := decP_back h
  rw [encOf_plain hm, hr, if_pos rfl, framed_yes hl, ← hb]
theorem dec_len {b : List UInt8} {x : Pm} (h : decP b = some x) : 8 ≤ b.length := by
  obtain ⟨_, hb, _⟩ := decP_back h
  rw [hb, Fr.frame_length]; omega

set_option maxRecDepth 100000 in
set_option maxHeartbeats 16000000 in
theorem msgBack_walk (a : Option Addr) (len cap : Nat) (bs : List UInt8) (at_ : Int) (w : World) (hr : Row8 w a len bs) (hlc : len ≤ cap) (hcm : cap ≤ maxLen) (_hn : a = none → cap = 0)
    (_wa : (Lit.int .i64 at_).wf = true) :
    Calls Try.prog 5 #[.slice a len cap, .int .i64 at_] w fun e w' => e = .returned (.bool true) ∧ Below w.heap.size w w' := by
  obtain ⟨k, hk, hk8⟩ := masked at_
  obtain ⟨post, hpost⟩ : ∃ post : Ending → World → Prop, post = fun e w' => e = .returned (.bool true) ∧ Below w.heap.size w w' := ⟨_, rfl⟩
  rw [← hpost]
  have hP : ∀ w', Below w.heap.size w w' → post (.returned (.bool true)) w' := fun w' h => by rw [hpost]; exact ⟨rfl, h⟩
  have HP := Lib.hid hP
  have HR := Lib.hid hr
  have HCM := Lib.hid hcm
  have hlm : len ≤ 9223372036854775807 := by simp only [maxLen] at hcm; omega
  have hbl : bs.length = len := hr.1
  have HBL := Lib.hid hbl
  clear hpost hP hr hcm hbl
  go_enter Try.func5, Try.ntmps5
  go_wp2_with fail
  refine (alive17_any w).mono ?_
  rintro e w1 ⟨rfl, hb1⟩
  have hd := decode_any a len cap bs w1 (HR.out.below hb1) hlc HCM.out
  have HD := Lib.hid hd
  have HB1 := Lib.hid hb1
  clear hd hb1
  go_wp2_with fail
  refine HD.out.mono ?_
  rintro e w2 ⟨m, rfl, hpl, hmo, hb2⟩
  have HB2 := Lib.hid (below_then HB1.out hb2)
  have HMO := Lib.hid hmo
  have hs2 := hb2.size
  have HS2 := Lib.hid (Nat.le_trans HB1.out.size hs2)
  clear hb2 hmo hs2 HD
  go_upto_region 4 with (first
    | (refine wpList_storeM rfl _ _ rfl w2.heap.size m zeroM rfl rfl _ (heap_alloc_new w2 _) ?_; intro w3 hd3 ht3; have HD3 := Lib.hid hd3; have HT3 := Lib.hid ht3; clear hd3 ht3))
  have hb3 : Below w2.heap.size w2 w3 := below_of_touch (below_alloc (Below.refl _ _) _) HT3.out (Nat.le_refl _)
  have hmo3 : MOwn w3 w1.heap.size m := HMO.out.keep fun g _ hl => (HT3.out.block g (by rw [World.size_alloc]; omega) (by simp; omega)).trans (heap_alloc_old _ _ hl)
  have HB3 := Lib.hid (below_then HB2.out hb3)
  have HMO3 := Lib.hid hmo3
  clear hb3 hmo3 HT3 HMO
  cases hdp : decP bs with
  | none =>
    clear hpl
    rw [if_pos rfl]
    go_wp2_with fail
    exact HP.out _ HB3.out
  | some x =>
  rw [hdp] at hpl
  rw [if_neg (by simp)]
  have hpx : decP bs = some m.plain := by rw [hdp]; exact congrArg some hpl.symm
  clear hpl hdp
  have hl8 : 8 ≤ len := by have := dec_len hpx; rw [HBL.out] at this; exact this
  have henc := encode_any m w3 HMO3.out.ok (own_len HMO3.out)
  rw [enc_back HMO3.out.ok hpx] at henc
  simp only [HBL.out] at henc
  have hrm : rightM m = true := by rw [rightM_plain HMO3.out.ok]; exact (decP_back hpx).1
  have HPX := Lib.hid hpx
  have HRM := Lib.hid hrm
  have HENC := Lib.hid henc
  clear hpx hrm henc
  obtain ⟨b0, off0, rfl, _⟩ := HR.out.2 0 (by omega)
  go_wp2_with (first
    | (refine wpList_loadM rfl _ rfl w2.heap.size m _ rfl HD3.out ?_))
  refine HENC.out.mono ?_
  rintro e w4 ⟨ac, cc, rfl, hown4, hb4⟩
  have hd4 := (hb4.block _ (Array.getElem?_eq_some_iff.1 HD3.out).1).trans HD3.out
  have hmo4 := HMO3.out.keep fun g _ hl => hb4.block g hl
  have HB4 := Lib.hid (below_then HB3.out hb4)
  have HD4 := Lib.hid hd4
  have HMO4 := Lib.hid hmo4
  have HOW4 := Lib.hid hown4
  have hs3 := hb4.size
  clear hb4 hd4 hmo4 hown4 HENC HD3 HMO3 HB3 HB2
  have hkl : k % len < len := Nat.mod_lt _ (by omega)
  have hkl' : (k : Int) % (len : Int) < (len : Int) := Int.emod_lt_of_pos _ (by omega)
  have hkl0 : 0 ≤ (k : Int) % (len : Int) := Int.emod_nonneg _ (by omega)
  have hkc : (k : Int) % (len : Int) ≤ (cap : Int) := by omega
  have hcast : (k : Int) % (len : Int) = ((k % len : Nat) : Int) := by rw [Int.natCast_emod]
  have htn : ((k : Int) % (len : Int)).toNat = k % len := by rw [hcast]; omega
  have HC := Lib.hid hcast
  have hz : ((len : Int) == 0) = false := by simp; omega
  have hne0 : ¬ ((len : Int) = 0) := by omega
  have hpos : 1 ≤ (len : Int) := by omega
  have hdt := decode_any (some ⟨b0, off0, none⟩) (k % len) cap (bs.take (k % len)) w4 ((HR.out.below HB4.out).take (k % len) (by omega)) (by omega) HCM.out
  have HDT := Lib.hid hdt
  have hno := decP_take HPX.out (i := k % len) (by rw [HBL.out]; exact hkl)
  have HNO := Lib.hid hno
  clear hcast hdt hno
  go_wp2_with fail
  refine HDT.out.mono ?_
  rintro e w5 ⟨m5, rfl, _, _, hb5⟩
  rw [HNO.out, if_pos rfl]
  have HB5 := Lib.hid (below_then HB4.out hb5)
  have hd5 := (hb5.block _ (Array.getElem?_eq_some_iff.1 HD4.out).1).trans HD4.out
  have hmo5 := HMO4.out.keep fun g _ hl => hb5.block g hl
  have how5 := HOW4.out.below hb5 (Nat.le_refl _)
  have HD5 := Lib.hid hd5
  have HMO5 := Lib.hid hmo5
  have HOW5 := Lib.hid how5
  have hs5 := hb5.size
  have hs4 : w2.heap.size < w4.heap.size := (Array.getElem?_eq_some_iff.1 HD4.out).1
  clear hb5 hd5 hmo5 how5 HDT HD4 HMO4 HOW4
  go_upto_region 8 with (first
    | (refine wpList_storeM rfl _ _ rfl w5.heap.size m5 zeroM rfl rfl _ (heap_alloc_new w5 _) ?_; intro w6 hd6 ht6; have HD6 := Lib.hid hd6; have HT6 := Lib.hid ht6; clear hd6 ht6))
  have hb6 : Below w5.heap.size w5 w6 := below_of_touch (below_alloc (Below.refl _ _) _) HT6.out (Nat.le_refl _)
  have hd6 := (hb6.block _ (Array.getElem?_eq_some_iff.1 HD5.out).1).trans HD5.out
  have hmo6 := HMO5.out.keep fun g _ hl => hb6.block g hl
  have how6 := HOW5.out.below hb6 (Nat.le_refl _)
  have HB6 := Lib.hid (below_then HB5.out hb6)
  have HD6 := Lib.hid hd6
  have HMO6 := Lib.hid hmo6
  have hsm := same_any (some ⟨b0, off0, none⟩) ac len len cap cc bs bs w6 (HR.out.below HB6.out) how6.row (by have := HCM.out; omega) (by have := HCM.out; omega)
  rw [decide_eq_true rfl] at hsm
  have HSM := Lib.hid hsm
  clear hb6 hd6 hmo6 how6 hsm HD5 HMO5 HOW5 HT6 hkl hkl' hkl0 hkc htn hz hne0 hpos hk hs3 hs4 hs5
  go_wp2_with fail
  refine HSM.out.mono ?_
  rintro e w7 ⟨rfl, q7, hw7⟩
  have hb7 : Below w6.heap.size w6 w7 := by rw [hw7]; exact below_drewN (Below.refl _ _) q7
  have hd7 := (hb7.block _ (Array.getElem?_eq_some_iff.1 HD6.out).1).trans HD6.out
  have hmo7 := HMO6.out.keep fun g _ hl => hb7.block g hl
  have hr7 := mright_any m w7 hmo7.ok (own_len hmo7)
  rw [HRM.out] at hr7
  have HB7 := Lib.hid (below_then HB6.out hb7)
  have HR7 := Lib.hid hr7
  have HD7 := Lib.hid hd7
  have HMO7 := Lib.hid hmo7
  obtain ⟨a0, a1, a2, a3, a4, a5, a6, a7, a8, a9, a10, a11, a12, a13⟩ := ms_cells hd7
  clear hw7 hb7 hd7 hmo7 hr7 HD6 HMO6
  go_wp2_with fail
  refine HR7.out.mono ?_
  rintro e w8 ⟨rfl, hb8⟩
  have hd8 := (hb8.block _ (Array.getElem?_eq_some_iff.1 HD7.out).1).trans HD7.out
  have hmo8 := HMO7.out.keep fun g _ hl => hb8.block g hl
  have hs8 := msame_any m m w8 hmo8.ok hmo8.ok (own_len hmo8) (own_len hmo8)
  rw [HRM.out, sameM_plain rfl] at hs8
  simp only [Bool.true_and] at hs8
  have HB8 := Lib.hid (below_then HB7.out hb8)
  have HS8 := Lib.hid hs8
  clear a0 a1 a2 a3 a4 a5 a6 a7 a8 a9 a10 a11 a12 a13
  obtain ⟨a0, a1, a2, a3, a4, a5, a6, a7, a8, a9, a10, a11, a12, a13⟩ := ms_cells hd8
  clear hb8 hd8 hmo8 hs8
  go_wp2_with fail
  refine HS8.out.mono ?_
  rintro e w9 ⟨rfl, hb9⟩
  have HB9 := Lib.hid (below_then HB8.out hb9)
  clear hb9 a0 a1 a2 a3 a4 a5 a6 a7 a8 a9 a10 a11 a12 a13
  go_wp2_with fail
  exact HP.out _ HB9.out
end Go.Proofs.Ytcejamblndilbaa
