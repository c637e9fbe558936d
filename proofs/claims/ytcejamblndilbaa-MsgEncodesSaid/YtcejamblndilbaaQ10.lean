/- The document's Encode. -/
import Derived.Test.YtcejamblndilbaaQ7
import Derived.Test.YtcejamblndilbaaQ9
namespace Go.Proofs.Ytcejamblndilbaa
open Go.RowKit

set_option maxRecDepth 100000 in
set_option maxHeartbeats 16000000 in
theorem rencode_any (m : Ms) (w : World) (hm : MsOk w m) (hcl : CLen m) :
    Calls Try.prog 11 #[.agg m.cs] w (fun e w' => ∃ ao n cap, e = .returned (.tuple #[.slice ao n cap, .int .i64 ((encOf m).2 : Nat)]) ∧ Own8 w' w.heap.size ao n cap (encOf m).1 ∧ Below w.heap.size w w') := by
  have hpl := rightM_plain hm
  have hencm := encM_plain hm
  obtain ⟨post, hpost⟩ : ∃ post : Ending → World → Prop, post = fun e w' => ∃ ao n cap, e = .returned (.tuple #[.slice ao n cap, .int .i64 ((encOf m).2 : Nat)]) ∧ Own8 w' w.heap.size ao n cap (encOf m).1 ∧ Below w.heap.size w w' := ⟨_, rfl⟩
  rw [← hpost]
  have hP : ∀ ao n cap (code : Nat) bs w', encOf m = (bs, code) → Own8 w' w.heap.size ao n cap bs → Below w.heap.size w w' → post (.returned (.tuple #[.slice ao n cap, .int .i64 (code : Nat)])) w' := fun ao n cap code bs w' h1 h2 h3 => by
    rw [hpost]; simp only [h1]; exact ⟨ao, n, cap, rfl, h2, h3⟩
  obtain ⟨X, hX⟩ : ∃ X, X = w.alloc (.cells m.cs 28) := ⟨_, rfl⟩
  have hXb : Below w.heap.size w X := hX ▸ below_alloc (Below.refl _ _) _
  have hA : X.heap[w.heap.size]? = some (.cells m.cs 28 (0, 0)) := hX ▸ heap_alloc_new w _
  have hr := rright17_any m X (hm.below hXb) hcl
  have HP := Lib.hid hP
  have HX := Lib.hid hX
  have HXB := Lib.hid hXb
  have HA := Lib.hid hA
  have HR := Lib.hid hr
  have HM := Lib.hid hm
  have HENCM := Lib.hid hencm
  clear hP hX hXb hA hr hm hpost hpl hencm hcl
  go_enter Try.func11, Try.ntmps11
  go_upto_region 1 with fail
  rw [← HX.out]
  go_wp2_with (first
    | (refine wpList_loadM rfl _ rfl w.heap.size m _ rfl HA.out ?_))
  refine HR.out.mono ?_
  rintro e w1 ⟨rfl, hb1⟩
  have HB1 := Lib.hid (below_then HXB.out hb1)
  have hA1 := (hb1.block _ (Array.getElem?_eq_some_iff.1 HA.out).1).trans HA.out
  have HA1 := Lib.hid hA1
  clear hb1 hA1 HA HX HR
  cases hrm : rightM m with
  | false =>
    have he : encOf m = ([], 1) := by rw [encOf, hrm]; rfl
    have HE := Lib.hid he
    clear he hrm
    go_wp2_with fail
    exact HP.out none 0 0 1 [] _ HE.out (Own8.nil _ _) HB1.out
  | true =>
  have hp := payload_any m w1 (HM.out.below HB1.out) hrm
  rw [← HENCM.out] at hp
  have he : encOf m = Fr.framed (encM m) := by rw [encOf, hrm]; rfl
  have HPAY := Lib.hid hp
  have HE := Lib.hid he
  clear hp he hrm
  go_upto_region 3 with fail
  go_wp2_with (first
    | (refine wpList_loadM rfl _ rfl w.heap.size m _ rfl HA1.out ?_))
  refine HPAY.out.mono ?_
  rintro e w2 ⟨a2, n2, c2, rfl, ho2, hb2⟩
  have hf := refframe_all a2 n2 c2 (encM m) w2 ho2.row
  have HFR := Lib.hid hf
  have HB2 := Lib.hid (below_then HB1.out hb2)
  clear hf ho2 hb2 HPAY
  go_wp2_with fail
  refine HFR.out.mono ?_
  rintro e w3 ⟨a3, c3, rfl, ho3, hb3⟩
  have HO3 := Lib.hid (ho3.more HB2.out.size)
  have HB3 := Lib.hid (below_then HB2.out hb3)
  clear ho3 hb3
  obtain ⟨fr, code, hfr⟩ : ∃ fr code, Fr.framed (encM m) = (fr, code) := ⟨_, _, rfl⟩
  rw [hfr] at HO3 HE ⊢
  simp only at HO3 ⊢
  clear hfr
  obtain ⟨n3, hn3⟩ : ∃ n3, n3 = fr.length := ⟨_, rfl⟩
  rw [← hn3] at HO3 ⊢
  clear hn3
  go_wp2_with fail
  exact HP.out _ _ _ _ _ _ HE.out HO3.out HB3.out
end Go.Proofs.Ytcejamblndilbaa
