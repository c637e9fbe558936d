/- msg.Same. -/
import Derived.Test.YtcejamblndilbaaSame1
namespace Go.Proofs.Ytcejamblndilbaa
open Go.RowKit

/-- the same in every part? -/
def sameM (a b : Ms) : Bool := decide (a.es.map En.says = b.es.map En.says) && (decide (a.kind = b.kind) && (decide (a.fr = b.fr) && (decide (a.to = b.to) && (decide (a.term = b.term) && (decide (a.index = b.index) && (decide (a.logTerm = b.logTerm) && (decide (a.commit = b.commit) &&
  (decide (a.ok = b.ok) && (decide (a.off = b.off) && (decide (a.last = b.last) && (decide (a.d.bs = b.d.bs) && (decide (a.c.v.zs = b.c.v.zs) && decide (a.c.l.zs = b.c.l.zs)))))))))))))
def CLen (m : Ms) : Prop := m.c.v.len ≤ 9223372036854775807 ∧ m.c.l.len ≤ 9223372036854775807

set_option maxRecDepth 100000 in
set_option maxHeartbeats 16000000 in
theorem msame_any (a b : Ms) (w : World) (ha : MsOk w a) (hb : MsOk w b) (hca : CLen a) (hcb : CLen b) :
    Calls Try.prog 18 #[.agg a.cs, .agg b.cs] w (RetBox w (.bool (rightM a && (rightM b && sameM a b)))) := by
  obtain ⟨v, hv⟩ : ∃ v, v = (rightM a && (rightM b && sameM a b)) := ⟨_, rfl⟩
  rw [← hv]
  obtain ⟨X, hX⟩ : ∃ X, X = (w.alloc (.cells a.cs 28)).alloc (.cells b.cs 28) := ⟨_, rfl⟩
  have hXb : Below w.heap.size w X := hX ▸ below_alloc (below_alloc (Below.refl _ _) _) _
  have hXs : X.heap.size = w.heap.size + 2 := by rw [hX, World.size_alloc, World.size_alloc]
  have hXa : X.heap[w.heap.size]? = some (.cells a.cs 28 (0, 0)) := hX ▸ (heap_alloc_old _ _ (by rw [World.size_alloc]; omega)).trans (heap_alloc_new w _)
  have hXc : X.heap[w.heap.size + 1]? = some (.cells b.cs 28 (0, 0)) := by have := heap_alloc_new (w.alloc (.cells a.cs 28)) (.cells b.cs 28); rw [World.size_alloc] at this; rw [hX]; exact this
  have hA : ∀ Z, Below X.heap.size X Z → Z.heap[w.heap.size]? = some (.cells a.cs 28 (0, 0)) := fun Z hZ => (hZ.block _ (by omega)).trans hXa
  have hB : ∀ Z, Below X.heap.size X Z → Z.heap[w.heap.size + 1]? = some (.cells b.cs 28 (0, 0)) := fun Z hZ => (hZ.block _ (by omega)).trans hXc
  have hra := fun Z (hZ : Below X.heap.size X Z) => mright_any a Z (ha.below (below_then hXb hZ)) hca
  have hrb := fun Z (hZ : Below X.heap.size X Z) => mright_any b Z (hb.below (below_then hXb hZ)) hcb
  have hen : a.en ≤ 9223372036854775807 := by have := ha.ecap; simp only [maxLen] at this; omega
  have hE := fun Z (hZ : Below X.heap.size X Z) => eqFunc_any a.ea b.ea a.en b.en a.ecap b.ecap a.es b.es Z (ha.below (below_then hXb hZ)).row ha.len (ha.below (below_then hXb hZ)).ents (hb.below (below_then hXb hZ)).row hb.len (hb.below (below_then hXb hZ)).ents hen
  have hD := fun Z (hZ : Below X.heap.size X Z) => eq8_any a.d.a b.d.a a.d.len b.d.len a.d.cap b.d.cap a.d.bs b.d.bs Z (ha.below (below_then hXb hZ)).data.1 (hb.below (below_then hXb hZ)).data.1 (Nat.le_trans ha.data.2.1 ha.data.2.2.1) (Nat.le_trans hb.data.2.1 hb.data.2.2.1)
  have hV := fun Z (hZ : Below X.heap.size X Z) => eqZ_any a.c.v.a b.c.v.a a.c.v.len b.c.v.len a.c.v.cap b.c.v.cap a.c.v.zs b.c.v.zs Z (ha.below (below_then hXb hZ)).cv.1 (hb.below (below_then hXb hZ)).cv.1 hca.1
  have hL := fun Z (hZ : Below X.heap.size X Z) => eqZ_any a.c.l.a b.c.l.a a.c.l.len b.c.l.len a.c.l.cap b.c.l.cap a.c.l.zs b.c.l.zs Z (ha.below (below_then hXb hZ)).cl.1 (hb.below (below_then hXb hZ)).cl.1 hca.2
  have HV := Lib.hid hv
  have HX := Lib.hid hX
  have HXB := Lib.hid hXb
  have HA := Lib.hid hA
  have HB := Lib.hid hB
  have HRA := Lib.hid hra
  have HRB := Lib.hid hrb
  have HE := Lib.hid hE
  have HD := Lib.hid hD
  have HVZ := Lib.hid hV
  have HLZ := Lib.hid hL
  clear hv hX hXb hXs hXa hXc hA hB hra hrb hE hD hV hL ha hb hca hcb hen
  go_enter Try.func18, Try.ntmps18
  go_upto_region 1 with fail
  rw [← HX.out]
  go_wp2_with (first
    | (refine wpList_loadM rfl _ rfl w.heap.size a _ rfl (HA.out _ (Below.refl _ _)) ?_))
  refine (HRA.out _ (Below.refl _ _)).mono ?_
  rintro e w1 ⟨rfl, hb1⟩
  have HB1 := Lib.hid hb1
  clear hb1
  cases hra : rightM a with
  | false =>
    have hv : v = false := by rw [HV.out, hra]; rfl
    subst hv
    clear hra HV
    go_wp2_with fail
    go_ret
    exact ⟨rfl, below_then HXB.out HB1.out⟩
  | true =>
  have hv1 : v = (rightM b && sameM a b) := by rw [HV.out, hra, Bool.true_and]
  have HV1 := Lib.hid hv1
  clear hra hv1 HV
  obtain ⟨b0, b1, b2, b3, b4, b5, b6, b7, b8, b9, b10, b11, b12, b13⟩ := ms_cells (HB.out w1 HB1.out)
  go_wp2_with fail
  clear b0 b1 b2 b3 b4 b5 b6 b7 b8 b9 b10 b11 b12 b13
  refine (HRB.out _ HB1.out).mono ?_
  rintro e w2 ⟨rfl, hb2⟩
  have HB2 := Lib.hid (below_then HB1.out hb2)
  clear hb2 HB1
  cases hrb : rightM b with
  | false =>
    have hv : v = false := by rw [HV1.out, hrb]; rfl
    subst hv
    clear hrb HV1
    go_wp2_with fail
    go_ret
    exact ⟨rfl, below_then HXB.out HB2.out⟩
  | true =>
  have hv2 : v = sameM a b := by rw [HV1.out, hrb, Bool.true_and]
  rw [sameM] at hv2
  have HV2 := Lib.hid hv2
  clear hrb hv2 HV1
  obtain ⟨a0, a1, a2, a3, a4, a5, a6, a7, a8, a9, a10, a11, a12, a13⟩ := ms_cells (HA.out _ HB2.out)
  obtain ⟨b0, b1, b2, b3, b4, b5, b6, b7, b8, b9, b10, b11, b12, b13⟩ := ms_cells (HB.out _ HB2.out)
  go_wp2_with fail
  clear a0 a1 a2 a3 a4 a5 a6 a7 a8 a9 a10 a11 a12 a13 b0 b1 b2 b3 b4 b5 b6 b7 b8 b9 b10 b11 b12 b13
  refine (HE.out _ HB2.out).mono ?_
  rintro e w3 ⟨rfl, hb3⟩
  have HB3 := Lib.hid (below_then HB2.out hb3)
  clear hb3 HB2
  have HF := Lib.hid (below_then HXB.out HB3.out)
  obtain ⟨a0, a1, a2, a3, a4, a5, a6, a7, a8, a9, a10, a11, a12, a13⟩ := ms_cells (HA.out _ HB3.out)
  obtain ⟨b0, b1, b2, b3, b4, b5, b6, b7, b8, b9, b10, b11, b12, b13⟩ := ms_cells (HB.out _ HB3.out)
  obtain ⟨ve, hve⟩ : ∃ ve, ve = decide (a.es.map En.says = b.es.map En.says) := ⟨_, rfl⟩
  rw [← hve] at HV2 ⊢
  clear hve
  cases ve
  · have hv : v = false := by rw [HV2.out]; rfl
    subst hv
    clear HV2
    go_wp2_with fail
    go_ret
    exact ⟨rfl, HF.out⟩
  have hv3 := HV2.out
  rw [Bool.true_and] at hv3
  have HV3 := Lib.hid hv3
  clear hv3 HV2
  by_cases h0 : a.kind = b.kind
  case neg =>
    have hv : v = false := by rw [HV3.out, decide_eq_false h0, Bool.false_and]
    subst hv
    have bb : (a.kind == b.kind) = false := by simpa using h0
    clear h0 HV3
    go_wp2_with fail
    go_ret
    exact ⟨rfl, HF.out⟩
  rw [decide_eq_true h0] at HV3
  have e0 : (a.kind == b.kind) = true := by simpa using h0
  clear h0
  have hv4 := HV3.out
  rw [Bool.true_and] at hv4
  have HV4 := Lib.hid hv4
  clear hv4 HV3
  by_cases h1 : a.fr = b.fr
  case neg =>
    have hv : v = false := by rw [HV4.out, decide_eq_false h1, Bool.false_and]
    subst hv
    have bb : (a.fr == b.fr) = false := by simpa using h1
    clear h1 HV4
    go_wp2_with fail
    go_ret
    exact ⟨rfl, HF.out⟩
  rw [decide_eq_true h1] at HV4
  have e1 : (a.fr == b.fr) = true := by simpa using h1
  clear h1
  have hv5 := HV4.out
  rw [Bool.true_and] at hv5
  have HV5 := Lib.hid hv5
  clear hv5 HV4
  by_cases h2 : a.to = b.to
  case neg =>
    have hv : v = false := by rw [HV5.out, decide_eq_false h2, Bool.false_and]
    subst hv
    have bb : (a.to == b.to) = false := by simpa using h2
    clear h2 HV5
    go_wp2_with fail
    go_ret
    exact ⟨rfl, HF.out⟩
  rw [decide_eq_true h2] at HV5
  have e2 : (a.to == b.to) = true := by simpa using h2
  clear h2
  have hv6 := HV5.out
  rw [Bool.true_and] at hv6
  have HV6 := Lib.hid hv6
  clear hv6 HV5
  by_cases h3 : a.term = b.term
  case neg =>
    have hv : v = false := by rw [HV6.out, decide_eq_false h3, Bool.false_and]
    subst hv
    have bb : (a.term == b.term) = false := by simpa using h3
    clear h3 HV6
    go_wp2_with fail
    go_ret
    exact ⟨rfl, HF.out⟩
  rw [decide_eq_true h3] at HV6
  have e3 : (a.term == b.term) = true := by simpa using h3
  clear h3
  have hv7 := HV6.out
  rw [Bool.true_and] at hv7
  have HV7 := Lib.hid hv7
  clear hv7 HV6
  by_cases h4 : a.index = b.index
  case neg =>
    have hv : v = false := by rw [HV7.out, decide_eq_false h4, Bool.false_and]
    subst hv
    have bb : (a.index == b.index) = false := by simpa using h4
    clear h4 HV7
    go_wp2_with fail
    go_ret
    exact ⟨rfl, HF.out⟩
  rw [decide_eq_true h4] at HV7
  have e4 : (a.index == b.index) = true := by simpa using h4
  clear h4
  have hv8 := HV7.out
  rw [Bool.true_and] at hv8
  have HV8 := Lib.hid hv8
  clear hv8 HV7
  by_cases h5 : a.logTerm = b.logTerm
  case neg =>
    have hv : v = false := by rw [HV8.out, decide_eq_false h5, Bool.false_and]
    subst hv
    have bb : (a.logTerm == b.logTerm) = false := by simpa using h5
    clear h5 HV8
    go_wp2_with fail
    go_ret
    exact ⟨rfl, HF.out⟩
  rw [decide_eq_true h5] at HV8
  have e5 : (a.logTerm == b.logTerm) = true := by simpa using h5
  clear h5
  have hv9 := HV8.out
  rw [Bool.true_and] at hv9
  have HV9 := Lib.hid hv9
  clear hv9 HV8
  by_cases h6 : a.commit = b.commit
  case neg =>
    have hv : v = false := by rw [HV9.out, decide_eq_false h6, Bool.false_and]
    subst hv
    have bb : (a.commit == b.commit) = false := by simpa using h6
    clear h6 HV9
    go_wp2_with fail
    go_ret
    exact ⟨rfl, HF.out⟩
  rw [decide_eq_true h6] at HV9
  have e6 : (a.commit == b.commit) = true := by simpa using h6
  clear h6
  have hv10 := HV9.out
  rw [Bool.true_and] at hv10
  have HV10 := Lib.hid hv10
  clear hv10 HV9
  by_cases h7 : a.ok = b.ok
  case neg =>
    have hv : v = false := by rw [HV10.out, decide_eq_false h7, Bool.false_and]
    subst hv
    have bb : (a.ok == b.ok) = false := by simpa using h7
    clear h7 HV10
    go_wp2_with fail
    go_ret
    exact ⟨rfl, HF.out⟩
  rw [decide_eq_true h7] at HV10
  have e7 : (a.ok == b.ok) = true := by simpa using h7
  clear h7
  have hv11 := HV10.out
  rw [Bool.true_and] at hv11
  have HV11 := Lib.hid hv11
  clear hv11 HV10
  by_cases h9 : a.off = b.off
  case neg =>
    have hv : v = false := by rw [HV11.out, decide_eq_false h9, Bool.false_and]
    subst hv
    have bb : (a.off == b.off) = false := by simpa using h9
    clear h9 HV11
    go_wp2_with fail
    go_ret
    exact ⟨rfl, HF.out⟩
  rw [decide_eq_true h9] at HV11
  have e9 : (a.off == b.off) = true := by simpa using h9
  clear h9
  have hv12 := HV11.out
  rw [Bool.true_and] at hv12
  have HV12 := Lib.hid hv12
  clear hv12 HV11
  by_cases h11 : a.last = b.last
  case neg =>
    have hv : v = false := by rw [HV12.out, decide_eq_false h11, Bool.false_and]
    subst hv
    have bb : (a.last == b.last) = false := by simpa using h11
    clear h11 HV12
    go_wp2_with fail
    go_ret
    exact ⟨rfl, HF.out⟩
  rw [decide_eq_true h11] at HV12
  have e11 : (a.last == b.last) = true := by simpa using h11
  clear h11
  have hq := HV12.out
  rw [Bool.true_and] at hq
  have HQ := Lib.hid hq
  clear hq HV12
  go_wp2_with fail
  refine (HD.out _ HB3.out).mono ?_
  rintro e w4 ⟨rfl, q4, rfl⟩
  have HB4 := Lib.hid (below_drewN HB3.out q4)
  have HF4 := Lib.hid (below_then HXB.out HB4.out)
  obtain ⟨vd, hvd⟩ : ∃ vd, vd = decide (a.d.bs = b.d.bs) := ⟨_, rfl⟩
  rw [← hvd] at HQ ⊢
  clear hvd HF
  cases vd
  · have hv : v = false := by rw [HQ.out]; rfl
    subst hv
    clear HQ
    go_wp2_with fail
    go_ret
    exact ⟨rfl, HF4.out⟩
  have hq5 := HQ.out
  rw [Bool.true_and] at hq5
  have HQ5 := Lib.hid hq5
  clear hq5 HQ
  go_wp2_with fail
  refine (HVZ.out _ HB4.out).mono ?_
  rintro e w5 ⟨rfl, q5, rfl⟩
  have HB5 := Lib.hid (below_drewN HB3.out (q4 + q5))
  have HF5 := Lib.hid (below_then HXB.out HB5.out)
  obtain ⟨vz, hvz⟩ : ∃ vz, vz = decide (a.c.v.zs = b.c.v.zs) := ⟨_, rfl⟩
  rw [← hvz] at HQ5 ⊢
  clear hvz HF4 HB4
  cases vz
  · have hv : v = false := by rw [HQ5.out]; rfl
    subst hv
    clear HQ5
    go_wp2_with fail
    go_ret
    exact ⟨rfl, HF5.out⟩
  have hq6 := HQ5.out
  rw [Bool.true_and] at hq6
  have HQ6 := Lib.hid hq6
  clear hq6 HQ5
  go_wp2_with fail
  refine (HLZ.out _ HB5.out).mono ?_
  rintro e w6 ⟨rfl, q6, rfl⟩
  have hF6 : ∀ q, Below w.heap.size w (w3.drewN q) := fun q => below_then HXB.out (below_drewN HB3.out q)
  have HF6 := Lib.hid hF6
  clear hF6
  obtain ⟨vl, hvl⟩ : ∃ vl, vl = decide (a.c.l.zs = b.c.l.zs) := ⟨_, rfl⟩
  rw [← hvl] at HQ6 ⊢
  have hv : v = vl := HQ6.out
  subst hv
  clear hvl HF5 HB5 HQ6
  cases v
  all_goals
    go_wp2_with fail
    go_ret
    exact ⟨rfl, HF6.out _⟩
end Go.Proofs.Ytcejamblndilbaa
