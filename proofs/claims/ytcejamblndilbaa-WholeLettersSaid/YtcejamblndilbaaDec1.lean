/- msg.Decode. -/
import Derived.Test.YtcejamblndilbaaRd1
import Derived.Test.YtcejamblndilbaaPl1
namespace Go.Proofs.Ytcejamblndilbaa
open Go.RowKit

/-- a whole message stored -/
def setM (w : World) (C : Nat) (m : Ms) : World := ((((((((((((((w.setCell ⟨C, 0, none⟩ (.int .i64 m.kind)).setCell ⟨C, 1, none⟩ (.int .i64 m.fr)).setCell ⟨C, 2, none⟩ (.int .i64 (m).to)).setCell ⟨C, 3, none⟩ (.int .i64 m.term)).setCell ⟨C, 4, none⟩ (.int .i64 m.index)).setCell ⟨C, 5, none⟩ (.int .i64 m.logTerm)).setCell ⟨C, 6, none⟩ (.int .i64 m.commit)).setCell ⟨C, 7, none⟩ (.bool m.ok)).setCell ⟨C, 8, none⟩ (.slice m.ea m.en m.ecap)).setCell ⟨C, 9, none⟩ (.int .i64 m.off)).setCell ⟨C, 10, none⟩ (.slice m.d.a m.d.len m.d.cap)).setCell ⟨C, 11, none⟩ (.bool m.last)).setCell ⟨C, 12, none⟩ (.slice m.c.v.a m.c.v.len m.c.v.cap)).setCell ⟨C, 13, none⟩ (.slice m.c.l.a m.c.l.len m.c.l.cap))
theorem setM_block {w : World} {C : Nat} {x m : Ms} {t : TypeId} (h : w.heap[C]? = some (.cells x.cs t (0, 0))) : (setM w C m).heap[C]? = some (.cells m.cs t (0, 0)) := by
  have e : ((((((((((((((x.cs.setIfInBounds 0 (.int .i64 m.kind)).setIfInBounds 1 (.int .i64 m.fr)).setIfInBounds 2 (.int .i64 (m).to)).setIfInBounds 3 (.int .i64 m.term)).setIfInBounds 4 (.int .i64 m.index)).setIfInBounds 5 (.int .i64 m.logTerm)).setIfInBounds 6 (.int .i64 m.commit)).setIfInBounds 7 (.bool m.ok)).setIfInBounds 8 (.slice m.ea m.en m.ecap)).setIfInBounds 9 (.int .i64 m.off)).setIfInBounds 10 (.slice m.d.a m.d.len m.d.cap)).setIfInBounds 11 (.bool m.last)).setIfInBounds 12 (.slice m.c.v.a m.c.v.len m.c.v.cap)).setIfInBounds 13 (.slice m.c.l.a m.c.l.len m.c.l.cap)) = m.cs := by kernel_rfl
  rw [← e]
  unfold setM
  exact (set_block (i := 13) (set_block (i := 12) (set_block (i := 11) (set_block (i := 10) (set_block (i := 9) (set_block (i := 8) (set_block (i := 7) (set_block (i := 6) (set_block (i := 5) (set_block (i := 4) (set_block (i := 3) (set_block (i := 2) (set_block (i := 1) (set_block (i := 0) h (.int .i64 m.kind)) (.int .i64 m.fr)) (.int .i64 (m).to)) (.int .i64 m.term)) (.int .i64 m.index)) (.int .i64 m.logTerm)) (.int .i64 m.commit)) (.bool m.ok)) (.slice m.ea m.en m.ecap)) (.int .i64 m.off)) (.slice m.d.a m.d.len m.d.cap)) (.bool m.last)) (.slice m.c.v.a m.c.v.len m.c.v.cap)) (.slice m.c.l.a m.c.l.len m.c.l.cap))
theorem setM_touch (w : World) (C : Nat) (m : Ms) : Touch [C] w (setM w C m) := (touch_set (touch_set (touch_set (touch_set (touch_set (touch_set (touch_set (touch_set (touch_set (touch_set (touch_set (touch_set (touch_set (touch_set (Touch.refl _ _) _ _ _ (by simp)) _ _ _ (by simp)) _ _ _ (by simp)) _ _ _ (by simp)) _ _ _ (by simp)) _ _ _ (by simp)) _ _ _ (by simp)) _ _ _ (by simp)) _ _ _ (by simp)) _ _ _ (by simp)) _ _ _ (by simp)) _ _ _ (by simp)) _ _ _ (by simp)) _ _ _ (by simp))
theorem cs_no8 (m : Ms) (o : Nat) (x : Int) : m.cs[o]? ≠ some (.int .u8 x) := by
  intro h
  have := Array.mem_of_getElem? h
  simp [Ms.cs] at this
theorem ms_no8 {w : World} {C : Nat} {m : Ms} {t : TypeId} (h : w.heap[C]? = some (.cells m.cs t (0, 0))) : ∀ k ∈ [C], ∀ o n, w.cell? ⟨k, o, none⟩ ≠ some (.int .u8 n) := by
  intro k hk o n hc
  have hkc : k = C := by simpa using hk
  subst hkc
  simp only [World.cell?, h] at hc
  exact cs_no8 m o n hc

/-- what the closure takes -/
def decStep (bs : List UInt8) : Option (Pm × List UInt8) := match readP bs with
  | none => none
  | some (x, r) => if rightP x then some (x, r) else none
def DecPost (w : World) (R C : Nat) (res : Option (Pm × List UInt8)) (e : Ending) (w' : World) : Prop :=
  Touch [R, C] w w' ∧ (∀ x r, res = some (x, r) → e = .returned (.tuple #[]) ∧ Rd w' R r ∧ ∃ m : Ms, m.plain = x ∧ w'.heap[C]? = some (.cells m.cs 28 (0, 0)) ∧ MOwn w' w.heap.size m) ∧ (res = none → e = Wrong 30)

set_option maxRecDepth 100000 in
set_option maxHeartbeats 16000000 in
theorem dec1_any (R C : Nat) (bs : List UInt8) (w : World) (hr : Rd w R bs) (hC : w.heap[C]? = some (.cells zeroM.cs 28 (0, 0))) (hCR : C < R) :
    Calls Try.prog 45 #[.pointer (some ⟨R, 0, none⟩), .pointer (some ⟨C, 0, none⟩)] w (DecPost w R C (decStep bs)) := by
  have hread := mread_any R bs w hr
  obtain ⟨RES, hRES⟩ : ∃ RES, RES = decStep bs := ⟨_, rfl⟩
  rw [← hRES]
  obtain ⟨post, hpost⟩ : ∃ post, post = DecPost w R C RES := ⟨_, rfl⟩
  rw [← hpost]
  have HNO : Hid (∀ w', RES = none → Touch [R, C] w w' → post (Wrong 30) w') := fun w' h ht => by rw [hpost]; exact ⟨ht, (fun x r h2 => by rw [h] at h2; cases h2), fun _ => rfl⟩
  have HPOST := Lib.hid hpost
  have HRL := Lib.hid hr.lt
  have HCC := Lib.hid hC
  have HCR := Lib.hid hCR
  cases hp : readP bs with
  | none =>
    rw [hp] at hread
    have hno : RES = none := by rw [hRES, decStep, hp]
    have HRD := Lib.hid hread
    have HNN := Lib.hid hno
    clear hread hRES hpost hr hC hCR hp hno
    go_enter Try.func45, Try.ntmps45
    go_wp2_with fail
    refine HRD.out.mono ?_
    rintro e w2 ⟨ht, _, hn⟩
    have he := hn rfl
    subst he
    have HT := Lib.hid ht
    clear ht hn
    simp only [Wrong]
    go_wp2
    exact ⟨rfl, HNO.out _ HNN.out (HT.out.mono (fun k hk => by simp at hk ⊢; exact .inl hk))⟩
  | some pr =>
  obtain ⟨x, r⟩ := pr
  rw [hp] at hread
  have hsm := readP_small hp
  have hst : RES = if rightP x then some (x, r) else none := by rw [hRES, decStep, hp]
  have HRD := Lib.hid hread
  have HST := Lib.hid hst
  have HSM := Lib.hid hsm
  clear hread hRES hpost hr hC hCR hp hst hsm
  go_enter Try.func45, Try.ntmps45
  go_wp2_with fail
  refine HRD.out.mono ?_
  rintro e w2 ⟨ht, hok, _⟩
  obtain ⟨m, rfl, hpl, hown, hrd⟩ := hok x r rfl
  have hc2 := (ht.block C (Array.getElem?_eq_some_iff.1 HCC.out).1 (by have := HCR.out; simp; omega)).trans HCC.out
  obtain ⟨b0, b1, b2, b3, b4, b5, b6, b7, b8, b9, b10, b11, b12, b13⟩ := ms_cells hc2
  have f0 : w2.frozen? ⟨C, 0, none⟩ = false := by simp [World.frozen?, hc2]
  have f1 : w2.frozen? ⟨C, 1, none⟩ = false := by simp [World.frozen?, hc2]
  have f2 : w2.frozen? ⟨C, 2, none⟩ = false := by simp [World.frozen?, hc2]
  have f3 : w2.frozen? ⟨C, 3, none⟩ = false := by simp [World.frozen?, hc2]
  have f4 : w2.frozen? ⟨C, 4, none⟩ = false := by simp [World.frozen?, hc2]
  have f5 : w2.frozen? ⟨C, 5, none⟩ = false := by simp [World.frozen?, hc2]
  have f6 : w2.frozen? ⟨C, 6, none⟩ = false := by simp [World.frozen?, hc2]
  have f7 : w2.frozen? ⟨C, 7, none⟩ = false := by simp [World.frozen?, hc2]
  have f8 : w2.frozen? ⟨C, 8, none⟩ = false := by simp [World.frozen?, hc2]
  have f9 : w2.frozen? ⟨C, 9, none⟩ = false := by simp [World.frozen?, hc2]
  have f10 : w2.frozen? ⟨C, 10, none⟩ = false := by simp [World.frozen?, hc2]
  have f11 : w2.frozen? ⟨C, 11, none⟩ = false := by simp [World.frozen?, hc2]
  have f12 : w2.frozen? ⟨C, 12, none⟩ = false := by simp [World.frozen?, hc2]
  have f13 : w2.frozen? ⟨C, 13, none⟩ = false := by simp [World.frozen?, hc2]
  have HC2 := Lib.hid hc2
  have HT := Lib.hid ht
  have HOW := Lib.hid hown
  have HPL := Lib.hid hpl
  have HRR := Lib.hid hrd
  clear hc2 ht hok hown hpl hrd HRD
  unfold Ms.cs
  go_upto_region 1 with fail
  have hsc := setM_block (m := m) HC2.out
  have hst := setM_touch w2 C m
  have hrd3 := HRR.out.touch hst (by have := HCR.out; simp; omega) (ms_no8 HC2.out)
  have hown3 : MOwn (setM w2 C m) w.heap.size m := HOW.out.keep fun g hg hl => hst.block g hl (by have := HCR.out; have := HRL.out; simp; omega)
  have ht3 : Touch [R, C] w (setM w2 C m) := (HT.out.mono (fun k hk => by simp at hk ⊢; exact .inl hk)).trans (hst.mono (fun k hk => by simp at hk ⊢; exact .inr hk))
  obtain ⟨w3, hw3⟩ : ∃ w3, w3 = setM w2 C m := ⟨_, rfl⟩
  rw [← hw3] at hsc hst hrd3 hown3 ht3
  unfold setM at hw3
  rw [← hw3]
  clear b0 b1 b2 b3 b4 b5 b6 b7 b8 b9 b10 b11 b12 b13 f0 f1 f2 f3 f4 f5 f6 f7 f8 f9 f10 f11 f12 f13 hst hw3
  have hri := mright_any m w3 hown3.ok (by
    have h1 := HSM.out
    rw [← HPL.out] at h1
    have h2 := hown3.cv.len
    have h3 := hown3.cl.len
    have h4 : m.c.v.zs.length ≤ 7 := h1.1
    have h5 : m.c.l.zs.length ≤ 7 := h1.2
    omega)
  rw [rightM_plain hown3.ok, HPL.out] at hri
  obtain ⟨b0, b1, b2, b3, b4, b5, b6, b7, b8, b9, b10, b11, b12, b13⟩ := ms_cells hsc
  have HRI := Lib.hid hri
  have HSC := Lib.hid hsc
  have HRD3 := Lib.hid hrd3
  have HOW3 := Lib.hid hown3
  have HT3 := Lib.hid ht3
  clear hri hsc hrd3 hown3 ht3 HC2 HT HOW HRR
  cases hrp : rightP x with
  | false =>
    rw [hrp] at HRI
    have hno : RES = none := by rw [HST.out, hrp]; rfl
    have HNN := Lib.hid hno
    clear hno hrp
    go_wp2_with fail
    refine HRI.out.mono ?_
    rintro e w4 ⟨rfl, hb4⟩
    have HB4 := Lib.hid hb4
    clear hb4 b0 b1 b2 b3 b4 b5 b6 b7 b8 b9 b10 b11 b12 b13
    go_wp2_with fail
    refine (fail_any R 30 _).mono ?_
    rintro e w'' ⟨rfl, rfl⟩
    simp only [Wrong]
    go_wp2
    exact ⟨rfl, HNO.out _ HNN.out (HT3.out.trans (Touch.of_below HB4.out))⟩
  | true =>
    rw [hrp] at HRI
    have hso : RES = some (x, r) := by rw [HST.out, hrp]; rfl
    have HSO := Lib.hid hso
    clear hso hrp
    go_wp2_with fail
    refine HRI.out.mono ?_
    rintro e w4 ⟨rfl, hb4⟩
    have HB4 := Lib.hid hb4
    clear hb4 b0 b1 b2 b3 b4 b5 b6 b7 b8 b9 b10 b11 b12 b13
    go_wp2_with fail
    go_end0
    rw [HPOST.out]
    refine ⟨HT3.out.trans (Touch.of_below HB4.out), fun x' r' hx => ?_, fun h => ?_⟩
    · rw [HSO.out] at hx
      injection hx with hx
      injection hx with h1 h2
      subst h1 h2
      exact ⟨rfl, HRD3.out.below HB4.out, m, HPL.out, (HB4.out.block C (Array.getElem?_eq_some_iff.1 HSC.out).1).trans HSC.out, HOW3.out.keep fun g _ hl => HB4.out.block g hl⟩
    · rw [HSO.out] at h; cases h

theorem enters_dec1 (args : Array Value) (w : World) : (callFunc 45 args).run Try.prog w = .ok (.enter 45 args) w := enters Try.func45 (by kernel_rfl) rfl args w
end Go.Proofs.Ytcejamblndilbaa
