/- The law's example, plain and walked. -/
import Derived.Test.YtcejamblndilbaaSame3
import Derived.Test.YtcejamblndilbaaPl3
import Derived.Test.YtcejamblndilbaaQ1
namespace Go.Proofs.Ytcejamblndilbaa
open Go.RowKit

/-- the example -/
def exM : Ms := ⟨4, 1, 2, 3, 0, 0, 0, true, none, 0, 0, [], 0, ⟨none, 0, 0, []⟩, false, ⟨⟨none, 0, 0, []⟩, ⟨none, 0, 0, []⟩⟩⟩
theorem exM_built : Try.prog.built 28 [(0, .int .i64 4), (1, .int .i64 1), (2, .int .i64 2), (3, .int .i64 3), (7, .bool true)] = some exM.cs := by kernel_rfl
theorem row_nilZ (w : World) : RowN w none 1 0 (cellsZ []) := ⟨rfl, fun h => absurd h (by omega)⟩
theorem exM_ok (w : World) : MsOk w exM := (⟨World.ownsRow_nil _ _ _ _, rfl, fun e he => (by cases he), Own8.nil _ _, World.ownsRow_nil _ _ _ _, World.ownsRow_nil _ _ _ _⟩ : MOwn w 0 exM).ok
theorem exM_right : rightM exM = true := by decide
theorem exM_len : CLen exM := ⟨by decide, by decide⟩
theorem exM_enc : encOf exM = (Fr.frame [8, 2, 4, 6, 1], 0) := by
  have e : encM exM = [8, 2, 4, 6, 1] := by decide
  rw [encOf, if_pos exM_right, e, framed_yes (by decide)]

/-! what is encoded is decoded -/
theorem decP_frame {x : Pm} (h : rightP x = true) (hl : (encP x).length ≤ 4096) : decP (Fr.frame (encP x)) = some x := by
  have hu := Fr.unframe_frame (encP x) [] hl
  rw [List.append_nil] at hu
  have hr := readP_enc [] (fits_right h)
  rw [List.append_nil] at hr
  unfold decP
  rw [hu, if_pos ⟨rfl, by rw [Fr.frame_length]; show 8 + (encP x).length = _; omega⟩]
  simp only
  rw [payP, decStep, hr]
  simp only [h, if_true]
theorem word_unword (b : List UInt8) (h : 4 ≤ b.length) : b.take 4 = Fr.word (Fr.unword b) := by
  obtain ⟨a0, a1, a2, a3, r, rfl⟩ : ∃ a0 a1 a2 a3 r, b = a0 :: a1 :: a2 :: a3 :: r := by
    match b, h with
    | a0 :: a1 :: a2 :: a3 :: r, _ => exact ⟨a0, a1, a2, a3, r, rfl⟩
  have h0 := a0.toNat_lt
  have h1 := a1.toNat_lt
  have h2 := a2.toNat_lt
  have h3 := a3.toNat_lt
  have e : Fr.unword (a0 :: a1 :: a2 :: a3 :: r) = a0.toNat + a1.toNat * 256 + a2.toNat * 65536 + a3.toNat * 16777216 := rfl
  rw [e]
  unfold Fr.word
  have q0 : UInt8.ofNat ((a0.toNat + a1.toNat * 256 + a2.toNat * 65536 + a3.toNat * 16777216) % 256) = a0 := UInt8.toNat_inj.1 (by rw [UInt8.toNat_ofNat']; omega)
  have q1 : UInt8.ofNat ((a0.toNat + a1.toNat * 256 + a2.toNat * 65536 + a3.toNat * 16777216) / 256 % 256) = a1 := UInt8.toNat_inj.1 (by rw [UInt8.toNat_ofNat']; omega)
  have q2 : UInt8.ofNat ((a0.toNat + a1.toNat * 256 + a2.toNat * 65536 + a3.toNat * 16777216) / 65536 % 256) = a2 := UInt8.toNat_inj.1 (by rw [UInt8.toNat_ofNat']; omega)
  have q3 : UInt8.ofNat ((a0.toNat + a1.toNat * 256 + a2.toNat * 65536 + a3.toNat * 16777216) / 16777216 % 256) = a3 := UInt8.toNat_inj.1 (by rw [UInt8.toNat_ofNat']; omega)
  rw [q0, q1, q2, q3]
  rfl
/-- bytes that are one frame -/
theorem unframe_whole {b p : List UInt8} (h : Fr.unframe b = (p, b.length, 0)) : b = Fr.frame p ∧ p.length ≤ 4096 := by
  by_cases h8 : b.length < 8
  · rw [Fr.unframe_short h8] at h; injection h with _ h; injection h with _ h; cases h
  by_cases h2 : 4096 < Fr.unword b
  · rw [Fr.unframe_long h8 h2] at h; injection h with _ h; injection h with _ h; cases h
  by_cases h3 : b.length < 8 + Fr.unword b
  · rw [Fr.unframe_more h8 h2 h3] at h; injection h with _ h; injection h with _ h; cases h
  by_cases h4 : Crc.crc ((b.drop 8).take (Fr.unword b)) = Fr.unword (b.drop 4)
  · rw [Fr.unframe_ok h8 h2 h3 h4] at h
    injection h with hp h
    injection h with hl _
    have hd : (b.drop 8).take (Fr.unword b) = b.drop 8 := List.take_of_length_le (by rw [List.length_drop]; omega)
    rw [hd] at hp h4
    subst hp
    have hpl : (b.drop 8).length = Fr.unword b := by rw [List.length_drop]; omega
    refine ⟨?_, by omega⟩
    unfold Fr.frame
    rw [hpl, h4, ← word_unword b (by omega), ← word_unword (b.drop 4) (by rw [List.length_drop]; omega)]
    have e1 : (b.drop 4).take 4 ++ b.drop 8 = b.drop 4 := by
      have := List.take_append_drop 4 (b.drop 4)
      rw [List.drop_drop] at this
      exact this
    rw [e1, List.take_append_drop]
  · rw [Fr.unframe_sum h8 h2 h3 h4] at h; injection h with _ h; injection h with _ h; cases h
theorem decP_back {b : List UInt8} {x : Pm} (h : decP b = some x) : rightP x = true ∧ b = Fr.frame (encP x) ∧ (encP x).length ≤ 4096 := by
  unfold decP at h
  split at h
  · rename_i hu
    unfold payP at h
    split at h
    · rename_i y hy
      injection h with h
      subst h
      unfold decStep at hy
      split at hy
      · cases hy
      · rename_i z r hz
        split at hy
        · rename_i hr
          injection hy with hy
          injection hy with hy1 hy2
          subst hy1 hy2
          have hb := readP_back hz
          rw [List.append_nil] at hb
          obtain ⟨h1, h2⟩ := unframe_whole (b := b) (p := (Fr.unframe b).1) (by rw [← hu.1, ← hu.2])
          rw [hb] at h1 h2
          exact ⟨hr, h1, h2⟩
        · cases hy
    · cases h
  · cases h
theorem encOf_plain {w : World} {m : Ms} (h : MsOk w m) : encOf m = if rightP m.plain then Fr.framed (encP m.plain) else ([], 1) := by
  rw [encOf, rightM_plain h, encM_plain h]

theorem plain_es {a b : Ms} (h : a.plain = b.plain) : a.es.map En.says = b.es.map En.says := by
  have h1 : a.es.map En.plain = b.es.map En.plain := congrArg Pm.es h
  have e : ∀ es : List En, es.map En.says = (es.map En.plain).map fun p => (p.ix, p.tm, p.kd, p.bs) := fun es => by rw [List.map_map]; rfl
  rw [e, e, h1]
theorem sameM_plain {a b : Ms} (h : a.plain = b.plain) : sameM a b = true := by
  have h0 : a.kind = b.kind := congrArg Pm.kind h
  have h1 : a.fr = b.fr := congrArg Pm.fr h
  have h2 : a.to = b.to := congrArg Pm.dst h
  have h3 : a.term = b.term := congrArg Pm.term h
  have h4 : a.index = b.index := congrArg Pm.index h
  have h5 : a.logTerm = b.logTerm := congrArg Pm.logTerm h
  have h6 : a.commit = b.commit := congrArg Pm.commit h
  have h7 : a.ok = b.ok := congrArg Pm.ok h
  have h8 : a.off = b.off := congrArg Pm.off h
  have h9 : a.d.bs = b.d.bs := congrArg Pm.d h
  have h10 : a.last = b.last := congrArg Pm.last h
  have h11 : a.c.v.zs = b.c.v.zs := congrArg Pm.v h
  have h12 : a.c.l.zs = b.c.l.zs := congrArg Pm.l h
  unfold sameM
  rw [plain_es h, h0, h1, h2, h3, h4, h5, h6, h7, h8, h9, h10, h11, h12]
  simp

theorem ex_drop : (Fr.frame [8, 2, 4, 6, 1]).drop 8 = [8, 2, 4, 6, 1] := by
  have := Fr.drop_frame [8, 2, 4, 6, 1] []
  rwa [List.append_nil, List.append_nil] at this
theorem own_len {w : World} {B : Nat} {m : Ms} (h : MOwn w B m) : CLen m := by
  have h1 := (own_cap h.cv).1
  have h2 := (own_cap h.cv).2
  have h3 := (own_cap h.cl).1
  have h4 := (own_cap h.cl).2
  simp only [maxLen] at h2 h4
  exact ⟨by omega, by omega⟩

set_option maxRecDepth 100000 in
set_option maxHeartbeats 16000000 in
theorem alive17_any (w : World) : Calls Try.prog 9 #[] w (RetBox w (.bool true)) := by
  go_enter Try.func9, Try.ntmps9
  go_wp2_with (first
    | (refine wpList_buildM rfl exM _ rfl exM_built ?_)
    | (refine wpList_storeM rfl _ _ rfl w.heap.size exM zeroM rfl rfl _ (heap_alloc_new _ _) ?_; intro w1 hd1 ht1; have HD1 := Lib.hid hd1; have HT1 := Lib.hid ht1; clear hd1 ht1)
    | (refine wpList_loadM rfl _ rfl w.heap.size exM _ rfl HD1.out ?_))
  have hb1 : Below w.heap.size w w1 := below_of_touch (below_alloc (Below.refl _ _) _) HT1.out (Nat.le_refl _)
  have henc := encode_any exM w1 (exM_ok w1) exM_len
  have hfl : (Fr.frame [8, 2, 4, 6, 1]).length = 13 := by rw [Fr.frame_length]; rfl
  rw [exM_enc, hfl] at henc
  have hdp : decP (Fr.frame [8, 2, 4, 6, 1]) = some exM.plain := by
    have e : encP exM.plain = [8, 2, 4, 6, 1] := by decide
    have := decP_frame (x := exM.plain) (by rw [← rightM_plain (exM_ok w)]; exact exM_right) (by rw [e]; decide)
    rwa [e] at this
  have hdr := ex_drop
  obtain ⟨F, hF⟩ : ∃ F, F = Fr.frame [8, 2, 4, 6, 1] := ⟨_, rfl⟩
  rw [← hF] at henc hfl hdp hdr
  have HB1 := Lib.hid hb1
  have HFL := Lib.hid hfl
  have HDP := Lib.hid hdp
  have HDR := Lib.hid hdr
  clear hb1 hF hfl hdp hdr
  refine henc.mono ?_
  clear henc
  rintro e w2 ⟨ao, cap, rfl, hown, hb2⟩
  have hdec := decode_any ao 13 cap F w2 hown.row hown.cap.1 hown.cap.2
  have hc13 := hown.cap.1
  have hcm := hown.cap.2
  simp only [maxLen] at hcm
  obtain ⟨g, rfl, hg1, hg2⟩ := hown.addr (by omega)
  have HB2 := Lib.hid hb2
  have HOW := Lib.hid hown
  have HDEC := Lib.hid hdec
  clear hb2 hown hdec
  go_wp2_with fail
  refine HDEC.out.mono ?_
  rintro e w3 ⟨m, rfl, hpl, hmo, hb3⟩
  rw [HDP.out] at hpl
  have hpl2 : m.plain = exM.plain := hpl
  have HPL := Lib.hid hpl2
  have HMO := Lib.hid hmo
  have HB3 := Lib.hid hb3
  rw [HDP.out, if_neg (by simp)]
  clear hpl hpl2 hmo hb3 HDEC
  go_upto_region 4 with (first
    | (refine wpList_storeM rfl _ _ rfl w3.heap.size m zeroM rfl rfl _ (heap_alloc_new w3 _) ?_; intro w4 hd4 ht4; have HD4 := Lib.hid hd4; have HT4 := Lib.hid ht4; clear hd4 ht4))
  have hb4 : Below w2.heap.size w2 w4 := below_of_touch (below_then HB3.out (below_alloc (Below.refl _ _) _)) HT4.out HB3.out.size
  have hF4 : ∀ Z, Below w4.heap.size w4 Z → Own8 Z w1.heap.size (some ⟨g, 0, none⟩) 13 cap F := fun Z hZ => HOW.out.below (below_then hb4 hZ) (Nat.le_refl _)
  have hw14 : Below w1.heap.size w1 w4 := below_then HB2.out hb4
  have hm4 : w4.heap[w.heap.size]? = some (.cells exM.cs 28 (0, 0)) := (hw14.block _ (Array.getElem?_eq_some_iff.1 HD1.out).1).trans HD1.out
  have hmo4 : MOwn w4 w2.heap.size m := HMO.out.keep fun g hg hl => (HT4.out.block g (by rw [World.size_alloc]; omega) (by simp; omega)).trans (heap_alloc_old _ _ hl)
  have hww : Below w.heap.size w w4 := below_then HB1.out hw14
  have HF4 := Lib.hid hF4
  have HM4 := Lib.hid hm4
  have HMO4 := Lib.hid hmo4
  have HWW := Lib.hid hww
  clear hb4 hF4 hw14 hm4 hmo4 hww
  go_wp2_with fail
  have hx5 : ∀ o, Row8 (w4.alloc o) (some ⟨g, 8, none⟩) 5 [8, 2, 4, 6, 1] := fun o => by
    have := (HF4.out _ (below_alloc (Below.refl _ _) o)).row.drop 8 (by omega)
    rw [HDR.out] at this
    exact this
  refine (same_any _ _ 5 5 _ _ [8, 2, 4, 6, 1] [8, 2, 4, 6, 1] _ (hx5 _) (Row8.new w4 _ _ _ _ 5 rfl rfl) (by decide) (by decide)).mono ?_
  rintro e w5 ⟨rfl, q5, hw5⟩
  have hb5 : Below w4.heap.size w4 w5 := by rw [hw5]; exact below_drewN (below_alloc (Below.refl _ _) _) q5
  rw [show decide (([8, 2, 4, 6, 1] : List UInt8) = [8, 2, 4, 6, 1]) = true from by decide]
  have hm5 := (hb5.block _ (Array.getElem?_eq_some_iff.1 HM4.out).1).trans HM4.out
  have hd5 := (hb5.block _ (Array.getElem?_eq_some_iff.1 HD4.out).1).trans HD4.out
  have hmo5 := HMO4.out.keep fun g _ hl => hb5.block g hl
  have hww5 := below_then HWW.out hb5
  have hrm : rightM m = true := by rw [rightM_plain hmo5.ok, HPL.out, ← rightM_plain (exM_ok w)]; exact exM_right
  have hs := msame_any exM m w5 (exM_ok w5) hmo5.ok exM_len (own_len hmo5)
  rw [exM_right, hrm, sameM_plain HPL.out.symm] at hs
  simp only [Bool.true_and] at hs
  obtain ⟨a0, a1, a2, a3, a4, a5, a6, a7, a8, a9, a10, a11, a12, a13⟩ := ms_cells hm5
  obtain ⟨b0, b1, b2, b3, b4, b5, b6, b7, b8, b9, b10, b11, b12, b13⟩ := ms_cells hd5
  have HS := Lib.hid hs
  have HM5 := Lib.hid hm5
  have HWW5 := Lib.hid hww5
  clear hx5 hw5 hb5 hm5 hd5 hmo5 hww5 hrm hs
  simp only [exM] at a0 a1 a2 a3 a4 a5 a6 a7 a8 a9 a10 a11 a12 a13
  go_wp2_with fail
  refine HS.out.mono ?_
  rintro e w6 ⟨rfl, hb6⟩
  have hm6 := (hb6.block _ (Array.getElem?_eq_some_iff.1 HM5.out).1).trans HM5.out
  have hr := mright_any exM w6 (exM_ok w6) exM_len
  rw [exM_right] at hr
  have HWW6 := Lib.hid (below_then HWW5.out hb6)
  have HR := Lib.hid hr
  clear a0 a1 a2 a3 a4 a5 a6 a7 a8 a9 a10 a11 a12 a13 b0 b1 b2 b3 b4 b5 b6 b7 b8 b9 b10 b11 b12 b13 hr hb6
  obtain ⟨a0, a1, a2, a3, a4, a5, a6, a7, a8, a9, a10, a11, a12, a13⟩ := ms_cells hm6
  simp only [exM] at a0 a1 a2 a3 a4 a5 a6 a7 a8 a9 a10 a11 a12 a13
  clear hm6
  go_wp2_with fail
  refine HR.out.mono ?_
  rintro e w7 ⟨rfl, hb7⟩
  have HF := Lib.hid (below_then HWW6.out hb7)
  clear hb7 a0 a1 a2 a3 a4 a5 a6 a7 a8 a9 a10 a11 a12 a13
  go_wp2_with fail
  go_ret
  exact ⟨rfl, HF.out⟩

end Go.Proofs.Ytcejamblndilbaa
