/- The document's Equal of messages. -/
import Derived.Test.YtcejamblndilbaaQ2
import Derived.Test.YtcejamblndilbaaSame3
namespace Go.Proofs.Ytcejamblndilbaa
open Go.RowKit

theorem MsOk.enR {w : World} {m : Ms} (h : MsOk w m) : EnR w m.es m.ea m.en := ⟨h.len, h.row, fun u hu => ⟨(h.ents u hu).1, Nat.le_trans (h.ents u hu).2.1 (h.ents u hu).2.2.1⟩⟩
theorem MsOk.cf {w : World} {m : Ms} (h : MsOk w m) : m.c.ok w := ⟨h.cv, h.cl⟩
/-- as the document asks it -/
def equalM (a b : Ms) : Bool := decide (a.kind = b.kind) && (decide (a.fr = b.fr) && (decide (a.to = b.to) && (decide (a.term = b.term) && (decide (a.index = b.index) && (decide (a.logTerm = b.logTerm) && (decide (a.commit = b.commit) && (decide (a.ok = b.ok) &&
  (decide (a.es.map En.says = b.es.map En.says) && (decide (a.off = b.off) && (decide (a.d.bs = b.d.bs) && (decide (a.last = b.last) && decide (a.c.says = b.c.says))))))))))))
theorem equalM_same (a b : Ms) : equalM a b = sameM a b := by
  unfold equalM sameM
  rw [Bool.eq_iff_iff]
  simp only [Bool.and_eq_true, decide_eq_true_eq, Cf.says, Prod.mk.injEq]
  constructor
  · rintro ⟨h0, h1, h2, h3, h4, h5, h6, h7, h8, h9, h10, h11, h12, h13⟩
    exact ⟨h8, h0, h1, h2, h3, h4, h5, h6, h7, h9, h11, h10, h12, h13⟩
  · rintro ⟨h8, h0, h1, h2, h3, h4, h5, h6, h7, h9, h11, h10, h12, h13⟩
    exact ⟨h0, h1, h2, h3, h4, h5, h6, h7, h8, h9, h10, h11, h12, h13⟩

set_option maxRecDepth 100000 in
set_option maxHeartbeats 16000000 in
theorem requal_any (a b : Ms) (w : World) (ha : MsOk w a) (hb : MsOk w b) (hca : CLen a) :
    Calls Try.prog 16 #[.agg a.cs, .agg b.cs] w (RetBox w (.bool (sameM a b))) := by
  rw [← equalM_same]
  obtain ⟨v, hv⟩ : ∃ v, v = equalM a b := ⟨_, rfl⟩
  rw [← hv]
  rw [equalM] at hv
  obtain ⟨X, hX⟩ : ∃ X, X = (w.alloc (.cells a.cs 28)).alloc (.cells b.cs 28) := ⟨_, rfl⟩
  have hXb : Below w.heap.size w X := hX ▸ below_alloc (below_alloc (Below.refl _ _) _) _
  have hXa : X.heap[w.heap.size]? = some (.cells a.cs 28 (0, 0)) := hX ▸ (heap_alloc_old _ _ (by rw [World.size_alloc]; omega)).trans (heap_alloc_new w _)
  have hXc : X.heap[w.heap.size + 1]? = some (.cells b.cs 28 (0, 0)) := by have := heap_alloc_new (w.alloc (.cells a.cs 28)) (.cells b.cs 28); rw [World.size_alloc] at this; rw [hX]; exact this
  have hen : a.en ≤ maxLen := by have := ha.ecap; omega
  have hE := fun Z (hZ : Below X.heap.size X Z) => esame_any a.ea b.ea a.en b.en a.ecap b.ecap a.es b.es Z (ha.below (below_then hXb hZ)).enR (hb.below (below_then hXb hZ)).enR hen
  have hD := fun Z (hZ : Below X.heap.size X Z) => same_any a.d.a b.d.a a.d.len b.d.len a.d.cap b.d.cap a.d.bs b.d.bs Z (ha.below (below_then hXb hZ)).data.1 (hb.below (below_then hXb hZ)).data.1 (Nat.le_trans ha.data.2.1 ha.data.2.2.1) (Nat.le_trans hb.data.2.1 hb.data.2.2.1)
  have hC := fun Z (hZ : Below X.heap.size X Z) => confSame_any a.c b.c Z (ha.below (below_then hXb hZ)).cf (hb.below (below_then hXb hZ)).cf hca
  have HV0 := Lib.hid hv
  have HX := Lib.hid hX
  have HXB := Lib.hid hXb
  have HE := Lib.hid hE
  have HD := Lib.hid hD
  have HC := Lib.hid hC
  have HA := Lib.hid hXa
  have HB := Lib.hid hXc
  clear hv hX hXb hXa hXc hE hD hC ha hb hca hen
  go_enter Try.func16, Try.ntmps16
  go_upto_region 1 with fail
  rw [← HX.out]
  obtain ⟨a0, a1, a2, a3, a4, a5, a6, a7, a8, a9, a10, a11, a12, a13⟩ := ms_cells HA.out
  obtain ⟨b0, b1, b2, b3, b4, b5, b6, b7, b8, b9, b10, b11, b12, b13⟩ := ms_cells HB.out
  by_cases h0 : a.kind = b.kind
  case neg =>
    have hv : v = false := by rw [HV0.out, decide_eq_false h0, Bool.false_and]
    subst hv
    have bb : (a.kind == b.kind) = false := by simpa using h0
    clear h0 HV0
    go_wp2_with fail
    go_ret
    exact ⟨rfl, HXB.out⟩
  have hv1 := HV0.out
  rw [decide_eq_true h0, Bool.true_and] at hv1
  have HV1 := Lib.hid hv1
  have e0 : (a.kind == b.kind) = true := by simpa using h0
  clear h0 hv1 HV0
  by_cases h1 : a.fr = b.fr
  case neg =>
    have hv : v = false := by rw [HV1.out, decide_eq_false h1, Bool.false_and]
    subst hv
    have bb : (a.fr == b.fr) = false := by simpa using h1
    clear h1 HV1
    go_wp2_with fail
    go_ret
    exact ⟨rfl, HXB.out⟩
  have hv2 := HV1.out
  rw [decide_eq_true h1, Bool.true_and] at hv2
  have HV2 := Lib.hid hv2
  have e1 : (a.fr == b.fr) = true := by simpa using h1
  clear h1 hv2 HV1
  by_cases h2 : a.to = b.to
  case neg =>
    have hv : v = false := by rw [HV2.out, decide_eq_false h2, Bool.false_and]
    subst hv
    have bb : (a.to == b.to) = false := by simpa using h2
    clear h2 HV2
    go_wp2_with fail
    go_ret
    exact ⟨rfl, HXB.out⟩
  have hv3 := HV2.out
  rw [decide_eq_true h2, Bool.true_and] at hv3
  have HV3 := Lib.hid hv3
  have e2 : (a.to == b.to) = true := by simpa using h2
  clear h2 hv3 HV2
  by_cases h3 : a.term = b.term
  case neg =>
    have hv : v = false := by rw [HV3.out, decide_eq_false h3, Bool.false_and]
    subst hv
    have bb : (a.term == b.term) = false := by simpa using h3
    clear h3 HV3
    go_wp2_with fail
    go_ret
    exact ⟨rfl, HXB.out⟩
  have hv4 := HV3.out
  rw [decide_eq_true h3, Bool.true_and] at hv4
  have HV4 := Lib.hid hv4
  have e3 : (a.term == b.term) = true := by simpa using h3
  clear h3 hv4 HV3
  by_cases h4 : a.index = b.index
  case neg =>
    have hv : v = false := by rw [HV4.out, decide_eq_false h4, Bool.false_and]
    subst hv
    have bb : (a.index == b.index) = false := by simpa using h4
    clear h4 HV4
    go_wp2_with fail
    go_ret
    exact ⟨rfl, HXB.out⟩
  have hv5 := HV4.out
  rw [decide_eq_true h4, Bool.true_and] at hv5
  have HV5 := Lib.hid hv5
  have e4 : (a.index == b.index) = true := by simpa using h4
  clear h4 hv5 HV4
  by_cases h5 : a.logTerm = b.logTerm
  case neg =>
    have hv : v = false := by rw [HV5.out, decide_eq_false h5, Bool.false_and]
    subst hv
    have bb : (a.logTerm == b.logTerm) = false := by simpa using h5
    clear h5 HV5
    go_wp2_with fail
    go_ret
    exact ⟨rfl, HXB.out⟩
  have hv6 := HV5.out
  rw [decide_eq_true h5, Bool.true_and] at hv6
  have HV6 := Lib.hid hv6
  have e5 : (a.logTerm == b.logTerm) = true := by simpa using h5
  clear h5 hv6 HV5
  by_cases h6 : a.commit = b.commit
  case neg =>
    have hv : v = false := by rw [HV6.out, decide_eq_false h6, Bool.false_and]
    subst hv
    have bb : (a.commit == b.commit) = false := by simpa using h6
    clear h6 HV6
    go_wp2_with fail
    go_ret
    exact ⟨rfl, HXB.out⟩
  have hv7 := HV6.out
  rw [decide_eq_true h6, Bool.true_and] at hv7
  have HV7 := Lib.hid hv7
  have e6 : (a.commit == b.commit) = true := by simpa using h6
  clear h6 hv7 HV6
  by_cases h7 : a.ok = b.ok
  case neg =>
    have hv : v = false := by rw [HV7.out, decide_eq_false h7, Bool.false_and]
    subst hv
    have bb : (a.ok == b.ok) = false := by simpa using h7
    clear h7 HV7
    go_wp2_with fail
    go_ret
    exact ⟨rfl, HXB.out⟩
  have hv8 := HV7.out
  rw [decide_eq_true h7, Bool.true_and] at hv8
  have HV8 := Lib.hid hv8
  have e7 : (a.ok == b.ok) = true := by simpa using h7
  clear h7 hv8 HV7
  go_wp2_with fail
  refine (HE.out _ (Below.refl _ _)).mono ?_
  rintro e wq4 ⟨rfl, q4, rfl⟩
  have HBq4 := Lib.hid (below_drewN (Below.refl X.heap.size X) q4)
  have HFq4 := Lib.hid (below_then HXB.out HBq4.out)
  obtain ⟨vv, hvv⟩ : ∃ vv, vv = decide (a.es.map En.says = b.es.map En.says) := ⟨_, rfl⟩
  have hv9 := HV8.out
  rw [← hvv] at hv9 ⊢
  have HT := Lib.hid hv9
  clear hvv hv9 HV8
  cases vv
  · have hv : v = false := by rw [HT.out]; rfl
    subst hv
    clear HT
    go_wp2_with fail
    go_ret
    exact ⟨rfl, HFq4.out⟩
  have hv9 := HT.out
  rw [Bool.true_and] at hv9
  have HV9 := Lib.hid hv9
  clear hv9 HT
  by_cases h9 : a.off = b.off
  case neg =>
    have hv : v = false := by rw [HV9.out, decide_eq_false h9, Bool.false_and]
    subst hv
    have bb : (a.off == b.off) = false := by simpa using h9
    clear h9 HV9
    go_wp2_with fail
    go_ret
    exact ⟨rfl, HFq4.out⟩
  have hv10 := HV9.out
  rw [decide_eq_true h9, Bool.true_and] at hv10
  have HV10 := Lib.hid hv10
  have e9 : (a.off == b.off) = true := by simpa using h9
  clear h9 hv10 HV9
  go_wp2_with fail
  refine (HD.out _ HBq4.out).mono ?_
  rintro e wq5 ⟨rfl, q5, rfl⟩
  have HBq5 := Lib.hid (below_drewN (Below.refl X.heap.size X) (q4 + q5))
  have HFq5 := Lib.hid (below_then HXB.out HBq5.out)
  obtain ⟨vv, hvv⟩ : ∃ vv, vv = decide (a.d.bs = b.d.bs) := ⟨_, rfl⟩
  have hv11 := HV10.out
  rw [← hvv] at hv11 ⊢
  have HT := Lib.hid hv11
  clear hvv hv11 HV10
  cases vv
  · have hv : v = false := by rw [HT.out]; rfl
    subst hv
    clear HT
    go_wp2_with fail
    go_ret
    exact ⟨rfl, HFq5.out⟩
  have hv11 := HT.out
  rw [Bool.true_and] at hv11
  have HV11 := Lib.hid hv11
  clear hv11 HT
  by_cases h11 : a.last = b.last
  case neg =>
    have hv : v = false := by rw [HV11.out, decide_eq_false h11, Bool.false_and]
    subst hv
    have bb : (a.last == b.last) = false := by simpa using h11
    clear h11 HV11
    go_wp2_with fail
    go_ret
    exact ⟨rfl, HFq5.out⟩
  have hv12 := HV11.out
  rw [decide_eq_true h11, Bool.true_and] at hv12
  have HV12 := Lib.hid hv12
  have e11 : (a.last == b.last) = true := by simpa using h11
  clear h11 hv12 HV11
  go_wp2_with fail
  refine (HC.out _ HBq5.out).mono ?_
  rintro e w6 ⟨rfl, hb6⟩
  have HF6 := Lib.hid (below_then HXB.out (below_then HBq5.out hb6))
  obtain ⟨vv, hvv⟩ : ∃ vv, vv = decide (a.c.says = b.c.says) := ⟨_, rfl⟩
  have hv := HV12.out
  rw [← hvv] at hv ⊢
  subst hv
  clear hvv hb6 HV12
  cases v
  all_goals
    go_wp2_with fail
    go_ret
    exact ⟨rfl, HF6.out⟩
end Go.Proofs.Ytcejamblndilbaa
