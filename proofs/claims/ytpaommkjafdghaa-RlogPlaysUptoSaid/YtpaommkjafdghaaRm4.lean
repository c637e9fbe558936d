/- The document's right entries, and its Append. -/
import Derived.Test.YtpaommkjafdghaaRload
namespace Go.Proofs.Ytpaommkjafdghaa
open Go.RowKit

def r06 (ix tm kd : Int) (len : Nat) : Bool := decide (1 ≤ ix) && (decide (ix ≤ 1099511627776) && (decide (0 ≤ tm) && (decide (tm ≤ 1099511627776) && (decide (0 ≤ kd) && (decide (kd ≤ 2) && decide ((len : Int) ≤ 2048))))))

set_option maxRecDepth 100000 in
set_option maxHeartbeats 6400000 in
theorem r06_any (ix tm kd : Int) (s : Sl) (w : World) :
    Calls Try.prog 48 #[.agg #[.int .i64 ix, .int .i64 tm, .int .i64 kd, .slice s.a s.len s.cap]] w (RetBox w (.bool (r06 ix tm kd s.len))) := by
  obtain ⟨v, hv⟩ : ∃ v, v = r06 ix tm kd s.len := ⟨_, rfl⟩
  rw [← hv]
  rw [r06] at hv
  have HV := Lib.hid hv
  clear hv
  by_cases h0 : 1 ≤ ix
  case neg =>
    have hv0 : v = false := by rw [HV.out]; simp only [decide_eq_false h0, Bool.false_and]
    subst hv0
    go_enter Try.func48, Try.ntmps48
    go_wp2_with fail
    go_ret
    exact ⟨by first | rfl | simp [h0] | (simp; omega), below_alloc (Below.refl _ _) _⟩
  by_cases h1 : ix ≤ 1099511627776
  case neg =>
    have hv0 : v = false := by rw [HV.out]; simp only [decide_eq_false h1, Bool.and_false, Bool.false_and]
    subst hv0
    go_enter Try.func48, Try.ntmps48
    go_wp2_with fail
    go_ret
    exact ⟨by first | rfl | simp [h1] | (simp; omega), below_alloc (Below.refl _ _) _⟩
  by_cases h2 : 0 ≤ tm
  case neg =>
    have hv0 : v = false := by rw [HV.out]; simp only [decide_eq_false h2, Bool.and_false, Bool.false_and]
    subst hv0
    go_enter Try.func48, Try.ntmps48
    go_wp2_with fail
    go_ret
    exact ⟨by first | rfl | simp [h2] | (simp; omega), below_alloc (Below.refl _ _) _⟩
  by_cases h3 : tm ≤ 1099511627776
  case neg =>
    have hv0 : v = false := by rw [HV.out]; simp only [decide_eq_false h3, Bool.and_false, Bool.false_and]
    subst hv0
    go_enter Try.func48, Try.ntmps48
    go_wp2_with fail
    go_ret
    exact ⟨by first | rfl | simp [h3] | (simp; omega), below_alloc (Below.refl _ _) _⟩
  by_cases h4 : 0 ≤ kd
  case neg =>
    have hv0 : v = false := by rw [HV.out]; simp only [decide_eq_false h4, Bool.and_false, Bool.false_and]
    subst hv0
    go_enter Try.func48, Try.ntmps48
    go_wp2_with fail
    go_ret
    exact ⟨by first | rfl | simp [h4] | (simp; omega), below_alloc (Below.refl _ _) _⟩
  by_cases h5 : kd ≤ 2
  case neg =>
    have hv0 : v = false := by rw [HV.out]; simp only [decide_eq_false h5, Bool.and_false, Bool.false_and]
    subst hv0
    go_enter Try.func48, Try.ntmps48
    go_wp2_with fail
    go_ret
    exact ⟨by first | rfl | simp [h5] | (simp; omega), below_alloc (Below.refl _ _) _⟩
  by_cases h6 : (s.len : Int) ≤ 2048
  case neg =>
    have hv0 : v = false := by rw [HV.out]; simp only [decide_eq_false h6, Bool.and_false]
    subst hv0
    go_enter Try.func48, Try.ntmps48
    go_wp2_with fail
    go_ret
    exact ⟨by first | rfl | simp [h6] | (simp; omega), below_alloc (Below.refl _ _) _⟩
  have hv0 : v = true := by rw [HV.out]; simp only [decide_eq_true h0, decide_eq_true h1, decide_eq_true h2, decide_eq_true h3, decide_eq_true h4, decide_eq_true h5, decide_eq_true h6, Bool.and_true]
  subst hv0
  go_enter Try.func48, Try.ntmps48
  go_wp2_with fail
  go_ret
  exact ⟨by first | rfl | simp [h6] | (simp; omega), below_alloc (Below.refl _ _) _⟩

set_option maxRecDepth 100000 in
set_option maxHeartbeats 6400000 in
theorem rright_any (ix tm kd : Int) (s : Sl) (w : World) (hs : Sl.ok w s) :
    Calls Try.prog 38 #[.agg #[.int .i64 ix, .int .i64 tm, .int .i64 kd, .slice s.a s.len s.cap]] w (RetBox w (.bool (rightE ix tm kd s.bs))) := by
  obtain ⟨X, hX⟩ : ∃ X, X = w.alloc (.cells #[.int .i64 ix, .int .i64 tm, .int .i64 kd, .slice s.a s.len s.cap] 32) := ⟨_, rfl⟩
  have hXb : Below w.heap.size w X := hX ▸ below_alloc (Below.refl _ _) _
  have hXs : X.heap.size = w.heap.size + 1 := by rw [hX, World.size_alloc]
  have hA : X.heap[w.heap.size]? = some (.cells #[.int .i64 ix, .int .i64 tm, .int .i64 kd, .slice s.a s.len s.cap] 32 (0, 0)) := hX ▸ heap_alloc_new w _
  have h06 := r06_any ix tm kd s X
  have hlen : s.bs.length = s.len := hs.1.1
  have hre : rightE ix tm kd s.bs = ((decide (kd ≠ 2) || (loadOf s.bs).isSome) && r06 ix tm kd s.len) := by rw [rightE, r06, hlen]
  have hbx : ∀ w2, Below X.heap.size X w2 → w2.heap[w.heap.size]? = some (.cells #[.int .i64 ix, .int .i64 tm, .int .i64 kd, .slice s.a s.len s.cap] 32 (0, 0)) := fun w2 hb => (hb.block _ (by omega)).trans hA
  have hld := fun (Z : World) (hZ : Below w.heap.size w Z) (hl : s.len ≤ 2048) => rload_any s.a s.len s.cap s.bs Z (hs.below hZ).1 hs.2.1 hs.2.2.1 (by omega)
  have hl6 : r06 ix tm kd s.len = true → s.len ≤ 2048 := fun h => by
    simp only [r06, Bool.and_eq_true, decide_eq_true_iff] at h
    omega
  rw [hre]
  obtain ⟨v, hv⟩ : ∃ v, v = r06 ix tm kd s.len := ⟨_, rfl⟩
  rw [← hv] at h06 hl6 ⊢
  have H06 := Lib.hid h06
  have HL6 := Lib.hid hl6
  have HLD := Lib.hid hld
  have HXB := Lib.hid hXb
  have HBX := Lib.hid hbx
  have HX := Lib.hid hX
  clear h06 hl6 hld hXb hbx hs hlen hre hA hXs hv hX
  cases v with
  | false =>
    rw [Bool.and_false]
    go_enter Try.func38, Try.ntmps38
    go_wp2_with fail
    rw [← HX.out]
    refine H06.out.mono ?_
    rintro e w2 ⟨rfl, hb2⟩
    go_wp2_with fail
    go_ret
    exact ⟨rfl, below_then HXB.out hb2⟩
  | true =>
    rw [Bool.and_true]
    by_cases hk : kd = 2
    · subst hk
      have hld2 := fun Z hZ => HLD.out Z hZ (HL6.out rfl)
      have HLD2 := Lib.hid hld2
      clear hld2
      go_enter Try.func38, Try.ntmps38
      go_wp2_with fail
      rw [← HX.out]
      refine H06.out.mono ?_
      rintro e w2 ⟨rfl, hb2⟩
      obtain ⟨⟨b0, b1, b2, b3⟩, _⟩ := four_cells (HBX.out _ hb2)
      have HB2 := Lib.hid (below_then HXB.out hb2)
      clear hb2
      go_wp2_with fail
      refine (HLD2.out _ HB2.out).mono ?_
      rintro e w3 ⟨c, rfl, _, _, _, hb3⟩
      have HB3 := Lib.hid (below_then HB2.out hb3)
      clear hb3
      obtain ⟨bo, hbo⟩ : ∃ bo, bo = (loadOf s.bs).isSome := ⟨_, rfl⟩
      rw [← hbo]
      go_wp2_with fail
      go_ret
      exact ⟨by simp, below_alloc HB3.out _⟩
    · have hne : (kd != 2) = true := by simp [hk]
      rw [decide_eq_true (show kd ≠ 2 from hk), Bool.true_or]
      go_enter Try.func38, Try.ntmps38
      go_wp2_with fail
      rw [← HX.out]
      refine H06.out.mono ?_
      rintro e w2 ⟨rfl, hb2⟩
      obtain ⟨⟨b0, b1, b2, b3⟩, _⟩ := four_cells (HBX.out _ hb2)
      go_wp2_with fail
      go_ret
      exact ⟨rfl, below_then HXB.out hb2⟩
end Go.Proofs.Ytpaommkjafdghaa
