/- Is an entry right? -/
import Derived.Test.YtpaommkjafdghaaLoad3
namespace Go.Proofs.Ytpaommkjafdghaa
open Go.RowKit

/-- is an entry right? -/
def rightE (ix tm kd : Int) (bs : List UInt8) : Bool :=
  (decide (kd ≠ 2) || (loadOf bs).isSome) && (decide (1 ≤ ix) && (decide (ix ≤ 1099511627776) && (decide (0 ≤ tm) && (decide (tm ≤ 1099511627776) && (decide (0 ≤ kd) && (decide (kd ≤ 2) && decide ((bs.length : Int) ≤ 2048)))))))
theorem rightE_iff {ix tm kd : Int} {bs : List UInt8} : rightE ix tm kd bs = true ↔ (kd ≠ 2 ∨ (loadOf bs).isSome = true) ∧ 1 ≤ ix ∧ ix ≤ 1099511627776 ∧ 0 ≤ tm ∧ tm ≤ 1099511627776 ∧ 0 ≤ kd ∧ kd ≤ 2 ∧ (bs.length : Int) ≤ 2048 := by
  simp only [rightE, Bool.and_eq_true, Bool.or_eq_true, decide_eq_true_iff]
theorem four_cells {w : World} {B : Nat} {T : TypeId} {c0 c1 c2 c3 : Value} (h : w.heap[B]? = some (.cells #[c0, c1, c2, c3] T (0, 0))) :
    (w.cell? ⟨B, 0, none⟩ = some c0 ∧ w.cell? ⟨B, 1, none⟩ = some c1 ∧ w.cell? ⟨B, 2, none⟩ = some c2 ∧ w.cell? ⟨B, 3, none⟩ = some c3) ∧
    (w.frozen? ⟨B, 0, none⟩ = false ∧ w.frozen? ⟨B, 1, none⟩ = false ∧ w.frozen? ⟨B, 2, none⟩ = false ∧ w.frozen? ⟨B, 3, none⟩ = false) := by
  refine ⟨⟨?_, ?_, ?_, ?_⟩, ?_, ?_, ?_, ?_⟩ <;> simp [World.cell?, World.frozen?, h]

set_option maxRecDepth 100000 in
set_option maxHeartbeats 6400000 in
theorem right_any (ix tm kd : Int) (s : Sl) (w : World) (hs : Sl.ok w s) :
    Calls Try.prog 32 #[.agg #[.int .i64 ix, .int .i64 tm, .int .i64 kd, .slice s.a s.len s.cap]] w (RetBox w (.bool (rightE ix tm kd s.bs))) := by
  obtain ⟨X, hX⟩ : ∃ X, X = w.alloc (.cells #[.int .i64 ix, .int .i64 tm, .int .i64 kd, .slice s.a s.len s.cap] 32) := ⟨_, rfl⟩
  have hXb : Below w.heap.size w X := hX ▸ below_alloc (Below.refl _ _) _
  have hXs : X.heap.size = w.heap.size + 1 := by rw [hX, World.size_alloc]
  have hA : X.heap[w.heap.size]? = some (.cells #[.int .i64 ix, .int .i64 tm, .int .i64 kd, .slice s.a s.len s.cap] 32 (0, 0)) := hX ▸ heap_alloc_new w _
  have hsX := hs.below hXb
  have hld := load_any s.a s.len s.cap s.bs X hsX.1 hsX.2.1 hsX.2.2.1 hsX.2.2.2
  have hlen : s.bs.length = s.len := hs.1.1
  obtain ⟨v, hv⟩ : ∃ v, v = rightE ix tm kd s.bs := ⟨_, rfl⟩
  rw [← hv]
  rw [rightE, hlen] at hv
  have hbx : ∀ w2, Below X.heap.size X w2 → w2.heap[w.heap.size]? = some (.cells #[.int .i64 ix, .int .i64 tm, .int .i64 kd, .slice s.a s.len s.cap] 32 (0, 0)) := fun w2 hb => (hb.block _ (by omega)).trans hA
  unfold LoadPost at hld
  obtain ⟨ld, hl⟩ : ∃ ld, ld = loadOf s.bs := ⟨_, rfl⟩
  rw [← hl] at hld hv
  have HLD := Lib.hid hld
  have HXB := Lib.hid hXb
  have HBX := Lib.hid hbx
  clear hld hXb hbx hs hsX hlen hl hA hXs
  subst hX
  by_cases hk2 : kd = 2
  · subst hk2
    cases ld with
    | none =>
      have hv0 : v = false := by rw [hv]; rfl
      subst hv0
      clear hv
      go_enter Try.func32, Try.ntmps32
      go_wp2_with fail
      refine HLD.out.mono ?_
      rintro e w2 ⟨v, rfl, c, hvv, hsc, _, _, hb⟩
      injection hvv with hvv
      subst hvv
      go_wp2_with fail
      go_ret
      exact ⟨rfl, below_drewN (below_alloc (below_then HXB.out hb) _) 0⟩
    | some p =>
      rw [show (decide ((2 : Int) ≠ 2) || (some p).isSome) = true from rfl, Bool.true_and] at hv
      have HV := Lib.hid hv
      clear hv
      have h5 : (0 : Int) ≤ 2 := by decide
      have h6 : (2 : Int) ≤ 2 := by decide
      by_cases h1 : 1 ≤ ix
      case neg =>
        have hv0 : v = false := by rw [HV.out]; simp only [decide_eq_false h1, Bool.false_and]
        have d0 : decide (1 ≤ ix) = false := decide_eq_false h1
        subst hv0
        go_enter Try.func32, Try.ntmps32
        go_wp2_with fail
        refine HLD.out.mono ?_
        rintro e w2 ⟨v, rfl, c, hvv, hsc, _, _, hb⟩
        injection hvv with hvv
        subst hvv
        obtain ⟨⟨b0, b1, b2, b3⟩, _⟩ := four_cells ((heap_alloc_old w2 (.cells #[.slice c.v.a c.v.len c.v.cap, .slice c.l.a c.l.len c.l.cap] 27) (lt_of_block (HBX.out _ hb))).trans (HBX.out _ hb))
        go_wp2_with fail
        go_ret
        exact ⟨by first | rfl | simp [h1], below_alloc (below_then HXB.out hb) _⟩
      by_cases h2 : ix ≤ 1099511627776
      case neg =>
        have hv0 : v = false := by rw [HV.out]; simp only [decide_eq_false h2, Bool.and_false, Bool.false_and]
        have d0 : decide (ix ≤ 1099511627776) = false := decide_eq_false h2
        subst hv0
        go_enter Try.func32, Try.ntmps32
        go_wp2_with fail
        refine HLD.out.mono ?_
        rintro e w2 ⟨v, rfl, c, hvv, hsc, _, _, hb⟩
        injection hvv with hvv
        subst hvv
        obtain ⟨⟨b0, b1, b2, b3⟩, _⟩ := four_cells ((heap_alloc_old w2 (.cells #[.slice c.v.a c.v.len c.v.cap, .slice c.l.a c.l.len c.l.cap] 27) (lt_of_block (HBX.out _ hb))).trans (HBX.out _ hb))
        go_wp2_with fail
        go_ret
        exact ⟨by first | rfl | simp [h2], below_alloc (below_then HXB.out hb) _⟩
      by_cases h3 : 0 ≤ tm
      case neg =>
        have hv0 : v = false := by rw [HV.out]; simp only [decide_eq_false h3, Bool.and_false, Bool.false_and]
        have d0 : decide (0 ≤ tm) = false := decide_eq_false h3
        subst hv0
        go_enter Try.func32, Try.ntmps32
        go_wp2_with fail
        refine HLD.out.mono ?_
        rintro e w2 ⟨v, rfl, c, hvv, hsc, _, _, hb⟩
        injection hvv with hvv
        subst hvv
        obtain ⟨⟨b0, b1, b2, b3⟩, _⟩ := four_cells ((heap_alloc_old w2 (.cells #[.slice c.v.a c.v.len c.v.cap, .slice c.l.a c.l.len c.l.cap] 27) (lt_of_block (HBX.out _ hb))).trans (HBX.out _ hb))
        go_wp2_with fail
        go_ret
        exact ⟨by first | rfl | simp [h3], below_alloc (below_then HXB.out hb) _⟩
      by_cases h4 : tm ≤ 1099511627776
      case neg =>
        have hv0 : v = false := by rw [HV.out]; simp only [decide_eq_false h4, Bool.and_false, Bool.false_and]
        have d0 : decide (tm ≤ 1099511627776) = false := decide_eq_false h4
        subst hv0
        go_enter Try.func32, Try.ntmps32
        go_wp2_with fail
        refine HLD.out.mono ?_
        rintro e w2 ⟨v, rfl, c, hvv, hsc, _, _, hb⟩
        injection hvv with hvv
        subst hvv
        obtain ⟨⟨b0, b1, b2, b3⟩, _⟩ := four_cells ((heap_alloc_old w2 (.cells #[.slice c.v.a c.v.len c.v.cap, .slice c.l.a c.l.len c.l.cap] 27) (lt_of_block (HBX.out _ hb))).trans (HBX.out _ hb))
        go_wp2_with fail
        go_ret
        exact ⟨by first | rfl | simp [h4], below_alloc (below_then HXB.out hb) _⟩
      by_cases h7 : (s.len : Int) ≤ 2048
      case neg =>
        have hv0 : v = false := by rw [HV.out]; simp only [decide_eq_false h7, Bool.and_false]
        have d0 : decide ((s.len : Int) ≤ 2048) = false := decide_eq_false h7
        subst hv0
        go_enter Try.func32, Try.ntmps32
        go_wp2_with fail
        refine HLD.out.mono ?_
        rintro e w2 ⟨v, rfl, c, hvv, hsc, _, _, hb⟩
        injection hvv with hvv
        subst hvv
        obtain ⟨⟨b0, b1, b2, b3⟩, _⟩ := four_cells ((heap_alloc_old w2 (.cells #[.slice c.v.a c.v.len c.v.cap, .slice c.l.a c.l.len c.l.cap] 27) (lt_of_block (HBX.out _ hb))).trans (HBX.out _ hb))
        go_wp2_with fail
        go_ret
        exact ⟨by first | rfl | simp [h7], below_alloc (below_then HXB.out hb) _⟩
      have hv1 : v = true := by rw [HV.out]; simp only [decide_eq_true h1, decide_eq_true h2, decide_eq_true h3, decide_eq_true h4, decide_eq_true h5, decide_eq_true h6, decide_eq_true h7, Bool.and_true]
      subst hv1
      go_enter Try.func32, Try.ntmps32
      go_wp2_with fail
      refine HLD.out.mono ?_
      rintro e w2 ⟨v, rfl, c, hvv, hsc, _, _, hb⟩
      injection hvv with hvv
      subst hvv
      obtain ⟨⟨b0, b1, b2, b3⟩, _⟩ := four_cells ((heap_alloc_old w2 (.cells #[.slice c.v.a c.v.len c.v.cap, .slice c.l.a c.l.len c.l.cap] 27) (lt_of_block (HBX.out _ hb))).trans (HBX.out _ hb))
      go_wp2_with fail
      go_ret
      exact ⟨by first | rfl | simp [h7], below_alloc (below_then HXB.out hb) _⟩
  · have hk2' : (kd == 2) = false := beq_eq_false_iff_ne.2 hk2
    rw [decide_eq_true hk2, Bool.true_or, Bool.true_and] at hv
    have HV := Lib.hid hv
    clear hv HLD
    by_cases h1 : 1 ≤ ix
    case neg =>
      have hv0 : v = false := by rw [HV.out]; simp only [decide_eq_false h1, Bool.false_and]
      have d0 : decide (1 ≤ ix) = false := decide_eq_false h1
      subst hv0
      go_enter Try.func32, Try.ntmps32
      go_wp2_with fail
      go_ret
      exact ⟨by first | rfl | simp [h1], HXB.out⟩
    by_cases h2 : ix ≤ 1099511627776
    case neg =>
      have hv0 : v = false := by rw [HV.out]; simp only [decide_eq_false h2, Bool.and_false, Bool.false_and]
      have d0 : decide (ix ≤ 1099511627776) = false := decide_eq_false h2
      subst hv0
      go_enter Try.func32, Try.ntmps32
      go_wp2_with fail
      go_ret
      exact ⟨by first | rfl | simp [h2], HXB.out⟩
    by_cases h3 : 0 ≤ tm
    case neg =>
      have hv0 : v = false := by rw [HV.out]; simp only [decide_eq_false h3, Bool.and_false, Bool.false_and]
      have d0 : decide (0 ≤ tm) = false := decide_eq_false h3
      subst hv0
      go_enter Try.func32, Try.ntmps32
      go_wp2_with fail
      go_ret
      exact ⟨by first | rfl | simp [h3], HXB.out⟩
    by_cases h4 : tm ≤ 1099511627776
    case neg =>
      have hv0 : v = false := by rw [HV.out]; simp only [decide_eq_false h4, Bool.and_false, Bool.false_and]
      have d0 : decide (tm ≤ 1099511627776) = false := decide_eq_false h4
      subst hv0
      go_enter Try.func32, Try.ntmps32
      go_wp2_with fail
      go_ret
      exact ⟨by first | rfl | simp [h4], HXB.out⟩
    by_cases h5 : 0 ≤ kd
    case neg =>
      have hv0 : v = false := by rw [HV.out]; simp only [decide_eq_false h5, Bool.and_false, Bool.false_and]
      have d0 : decide (0 ≤ kd) = false := decide_eq_false h5
      subst hv0
      go_enter Try.func32, Try.ntmps32
      go_wp2_with fail
      go_ret
      exact ⟨by first | rfl | simp [h5], HXB.out⟩
    by_cases h6 : kd ≤ 2
    case neg =>
      have hv0 : v = false := by rw [HV.out]; simp only [decide_eq_false h6, Bool.and_false, Bool.false_and]
      have d0 : decide (kd ≤ 2) = false := decide_eq_false h6
      subst hv0
      go_enter Try.func32, Try.ntmps32
      go_wp2_with fail
      go_ret
      exact ⟨by first | rfl | simp [h6], HXB.out⟩
    by_cases h7 : (s.len : Int) ≤ 2048
    case neg =>
      have hv0 : v = false := by rw [HV.out]; simp only [decide_eq_false h7, Bool.and_false]
      have d0 : decide ((s.len : Int) ≤ 2048) = false := decide_eq_false h7
      subst hv0
      go_enter Try.func32, Try.ntmps32
      go_wp2_with fail
      go_ret
      exact ⟨by first | rfl | simp [h7], HXB.out⟩
    have hv1 : v = true := by rw [HV.out]; simp only [decide_eq_true h1, decide_eq_true h2, decide_eq_true h3, decide_eq_true h4, decide_eq_true h5, decide_eq_true h6, decide_eq_true h7, Bool.and_true]
    subst hv1
    go_enter Try.func32, Try.ntmps32
    go_wp2_with fail
    go_ret
    exact ⟨by first | rfl | simp [h7], HXB.out⟩
end Go.Proofs.Ytpaommkjafdghaa
