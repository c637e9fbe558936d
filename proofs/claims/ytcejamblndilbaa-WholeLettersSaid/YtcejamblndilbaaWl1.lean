/- A log: Term, Has, Append (out of rlog's texts). -/
import Derived.Test.YtcejamblndilbaaEns
import Derived.Test.YtcejamblndilbaaPl3
import Derived.Test.YtcejamblndilbaaRight2
import Derived.Deep.RegionLaw
import Derived.BigQuiet
namespace Go.Proofs.Ytcejamblndilbaa
open Go.RowKit

/-- the indexes follow the base -/
structure Sound (ix tm : Int) (es : List En) : Prop where
  rx : 0 ≤ ix ∧ ix ≤ 1099511627776
  rt : 0 ≤ tm ∧ tm ≤ 1099511627776
  idx : ∀ (k : Nat) e, es[k]? = some e → e.ix = ix + 1 + k
theorem Sound.last {ix tm : Int} {es : List En} (h : Sound ix tm es) : (lastOf ix tm es).1 = ix + es.length := by
  unfold lastOf
  cases hl : es.getLast? with
  | none =>
    rw [List.getLast?_eq_none_iff] at hl
    subst hl
    simp
  | some e =>
    have h0 : 0 < es.length := List.length_pos_iff.2 (fun hc => by rw [hc] at hl; cases hl)
    rw [List.getLast?_eq_getElem?] at hl
    have := h.idx _ e hl
    simp only
    omega
/-- the term at an index -/
def termOf (ix tm : Int) (es : List En) (i : Int) : Int × Bool :=
  if i < ix ∨ i > ix + es.length then (0, false) else if i = ix then (tm, true) else (((es[(i - ix - 1).toNat]?.map En.tm).getD 0), true)
set_option maxRecDepth 100000 in
set_option maxHeartbeats 3200000 in
theorem term_any (base N : Nat) (ix tm : Int) (c : Cf) (es : List En) (ae : Option Addr) (n cap : Nat) (i : Int) (w : World) (h : LogAt w base N ix tm c es ae n cap) (hs : Sound ix tm es) (hn : n ≤ 2000000000000) :
    Calls Try.prog 90 #[.pointer (some ⟨N, 0, none⟩), .int .i64 i] w (RetBox w (.tuple #[.int .i64 (termOf ix tm es i).1, .bool (termOf ix tm es i).2])) := by
  have hl := last_any base N ix tm c es ae n cap w h hn
  have hli := hs.last
  obtain ⟨u, hu⟩ : ∃ u, u = lastOf ix tm es := ⟨_, rfl⟩
  rw [← hu] at hl hli
  obtain ⟨ui, ut⟩ := u
  simp only at hli
  rw [h.len] at hli
  subst hli
  have hix := hs.rx
  have hc : ∀ w2, Below w.heap.size w w2 → w2.cell? ⟨N, 0, none⟩ = some (.int .i64 ix) ∧ w2.cell? ⟨N, 1, none⟩ = some (.int .i64 tm) ∧ w2.cell? ⟨N, 4, none⟩ = some (.slice ae n cap) := fun w2 hb => by
    obtain ⟨⟨c0, c1, c2, c3, c4⟩, _⟩ := five_cells (h.below hb).cell
    exact ⟨c0, c1, c4⟩
  have HC := Lib.hid hc
  have HL := Lib.hid hl
  have H := Lib.hid h
  have HLN := Lib.hid h.len
  clear hl hu hs hc h
  unfold termOf
  rw [HLN.out]
  by_cases h1 : i < ix
  · rw [if_pos (.inl h1)]
    go_enter Try.func90, Try.ntmps90
    go_wp2_with fail
    refine HL.out.mono ?_
    rintro e w2 ⟨rfl, hb2⟩
    obtain ⟨c0, c1, c4⟩ := HC.out _ hb2
    go_wp2_with fail
    go_ret2
    exact ⟨rfl, hb2⟩
  by_cases h2 : i > ix + n
  · rw [if_pos (.inr h2)]
    have h2' : ix + (n : Int) < i := h2
    go_enter Try.func90, Try.ntmps90
    go_wp2_with fail
    refine HL.out.mono ?_
    rintro e w2 ⟨rfl, hb2⟩
    obtain ⟨c0, c1, c4⟩ := HC.out _ hb2
    go_wp2_with fail
    go_ret2
    exact ⟨rfl, hb2⟩
  rw [if_neg (by omega)]
  have h2' : ¬ ix + (n : Int) < i := h2
  by_cases h3 : i = ix
  · rw [if_pos h3]
    subst h3
    go_enter Try.func90, Try.ntmps90
    go_wp2_with fail
    refine HL.out.mono ?_
    rintro e w2 ⟨rfl, hb2⟩
    obtain ⟨c0, c1, c4⟩ := HC.out _ hb2
    go_wp2_with fail
    go_ret2
    exact ⟨rfl, hb2⟩
  · rw [if_neg h3]
    obtain ⟨k, hk⟩ : ∃ k : Nat, i = ix + 1 + k := ⟨(i - ix - 1).toNat, by omega⟩
    subst hk
    have hkn : k < n := by omega
    have hkt : (ix + 1 + (k : Int) - ix - 1).toNat = k := by omega
    rw [hkt]
    obtain ⟨e, he⟩ : ∃ e, es[k]? = some e := ⟨_, List.getElem?_eq_getElem (by rw [HLN.out]; exact hkn)⟩
    rw [he]
    have hcc : ∀ w2, Below w.heap.size w w2 → ∃ b off, ae = some ⟨b, off, none⟩ ∧ w2.cell? ⟨b, off + k * 4 + 1, none⟩ = some (.int .i64 e.tm) := fun w2 hb => by
      obtain ⟨b, off, ha, e0, e1, e2, e3⟩ := en_at (RowN.of_own (H.out.below hb).row) HLN.out k hkn e he
      exact ⟨b, off, ha, e1⟩
    have HCC := Lib.hid hcc
    have hne : (ix + 1 + (k : Int) == ix) = false := by simp; omega
    have hw1 : IntKind.i64.wrap (ix + 1 + (k : Int) - ix) = (k : Int) + 1 := by rw [IntKind.wrap_i64] <;> omega
    have hw2 : IntKind.i64.wrap ((k : Int) + 1 - 1) = (k : Int) := by rw [IntKind.wrap_i64] <;> omega
    have hw3 : IntKind.i64.wrap (k : Int) = (k : Int) := by rw [IntKind.wrap_i64] <;> omega
    have hkl : (k : Int) < (n : Int) := by omega
    have h1' : ¬ ix + 1 + (k : Int) < ix := h1
    clear hcc he hkt h3
    go_enter Try.func90, Try.ntmps90
    go_wp2_with fail
    refine HL.out.mono ?_
    rintro e w2 ⟨rfl, hb2⟩
    obtain ⟨c0, c1, c4⟩ := HC.out _ hb2
    obtain ⟨b, off, rfl, e1⟩ := HCC.out _ hb2
    go_wp2_with fail
    go_quiet (fail)
    go_wp2_with fail
    go_ret2
    exact ⟨rfl, below_drewN hb2 _⟩
def hasOf (ix tm : Int) (es : List En) (i t : Int) : Bool := (termOf ix tm es i).2 && decide ((termOf ix tm es i).1 = t)
set_option maxRecDepth 100000 in
set_option maxHeartbeats 3200000 in
theorem has_any (base N : Nat) (ix tm : Int) (c : Cf) (es : List En) (ae : Option Addr) (n cap : Nat) (i t : Int) (w : World) (h : LogAt w base N ix tm c es ae n cap) (hs : Sound ix tm es) (hn : n ≤ 2000000000000) :
    Calls Try.prog 57 #[.pointer (some ⟨N, 0, none⟩), .int .i64 i, .int .i64 t] w (RetBox w (.bool (hasOf ix tm es i t))) := by
  have hl := term_any base N ix tm c es ae n cap i w h hs hn
  unfold hasOf
  obtain ⟨u, hu⟩ : ∃ u, u = termOf ix tm es i := ⟨_, rfl⟩
  rw [← hu] at hl ⊢
  obtain ⟨ui, ut⟩ := u
  have HL := Lib.hid hl
  clear hl h hu hs
  cases ut with
  | true =>
    go_enter Try.func57, Try.ntmps57
    go_wp2_with fail
    refine HL.out.mono ?_
    rintro e w2 ⟨rfl, hb2⟩
    go_wp2_with fail
    go_ret
    exact ⟨congrArg Ending.returned (congrArg Value.bool (by rw [Bool.true_and, Bool.eq_iff_iff]; simp)), hb2⟩
  | false =>
    go_enter Try.func57, Try.ntmps57
    go_wp2_with fail
    refine HL.out.mono ?_
    rintro e w2 ⟨rfl, hb2⟩
    go_wp2_with fail
    go_ret
    exact ⟨by simp, hb2⟩
/-- is an entry right? -/
def rightE (ix tm kd : Int) (bs : List UInt8) : Bool :=
  (decide (kd ≠ 2) || (loadOf bs).isSome) && (decide (1 ≤ ix) && (decide (ix ≤ 1099511627776) && (decide (0 ≤ tm) && (decide (tm ≤ 1099511627776) && (decide (0 ≤ kd) && (decide (kd ≤ 2) && decide ((bs.length : Int) ≤ 2048)))))))
theorem rightE_iff {ix tm kd : Int} {bs : List UInt8} : rightE ix tm kd bs = true ↔ (kd ≠ 2 ∨ (loadOf bs).isSome = true) ∧ 1 ≤ ix ∧ ix ≤ 1099511627776 ∧ 0 ≤ tm ∧ tm ≤ 1099511627776 ∧ 0 ≤ kd ∧ kd ≤ 2 ∧ (bs.length : Int) ≤ 2048 := by
  simp only [rightE, Bool.and_eq_true, Bool.or_eq_true, decide_eq_true_iff]
set_option maxRecDepth 100000 in
set_option maxHeartbeats 6400000 in
theorem right_any (ix tm kd : Int) (s : Sl) (w : World) (hs : Sl.ok w s) :
    Calls Try.prog 59 #[.agg #[.int .i64 ix, .int .i64 tm, .int .i64 kd, .slice s.a s.len s.cap]] w (RetBox w (.bool (rightE ix tm kd s.bs))) := by
  obtain ⟨X, hX⟩ : ∃ X, X = w.alloc (.cells #[.int .i64 ix, .int .i64 tm, .int .i64 kd, .slice s.a s.len s.cap] 41) := ⟨_, rfl⟩
  have hXb : Below w.heap.size w X := hX ▸ below_alloc (Below.refl _ _) _
  have hXs : X.heap.size = w.heap.size + 1 := by rw [hX, World.size_alloc]
  have hA : X.heap[w.heap.size]? = some (.cells #[.int .i64 ix, .int .i64 tm, .int .i64 kd, .slice s.a s.len s.cap] 41 (0, 0)) := hX ▸ heap_alloc_new w _
  have hsX := hs.below hXb
  have hld := load_any s.a s.len s.cap s.bs X hsX.1 hsX.2.1 hsX.2.2.1 hsX.2.2.2
  have hlen : s.bs.length = s.len := hs.1.1
  obtain ⟨v, hv⟩ : ∃ v, v = rightE ix tm kd s.bs := ⟨_, rfl⟩
  rw [← hv]
  rw [rightE, hlen] at hv
  have hbx : ∀ w2, Below X.heap.size X w2 → w2.heap[w.heap.size]? = some (.cells #[.int .i64 ix, .int .i64 tm, .int .i64 kd, .slice s.a s.len s.cap] 41 (0, 0)) := fun w2 hb => (hb.block _ (by omega)).trans hA
  unfold LoadPost at hld
  obtain ⟨ld, hl⟩ : ∃ ld, ld = loadOf s.bs := ⟨_, rfl⟩
  rw [← hl] at hld hv
  have HLD := Lib.hid hld
  have HXB := Lib.hid hXb
  have HBX := Lib.hid hbx
  clear hld hXb hbx hs hsX hlen hl hA hXs
  subst hX
  by_cases hk2 : kd = 2
  · subst hk2
    cases ld with
    | none =>
      have hv0 : v = false := by rw [hv]; rfl
      subst hv0
      clear hv
      go_enter Try.func59, Try.ntmps59
      go_wp2_with fail
      refine HLD.out.mono ?_
      rintro e w2 ⟨v, rfl, c, hvv, hsc, _, _, hb⟩
      injection hvv with hvv
      subst hvv
      go_wp2_with fail
      go_ret
      exact ⟨rfl, below_drewN (below_alloc (below_then HXB.out hb) _) 0⟩
    | some p =>
      rw [show (decide ((2 : Int) ≠ 2) || (some p).isSome) = true from rfl, Bool.true_and] at hv
      have HV := Lib.hid hv
      clear hv
      have h5 : (0 : Int) ≤ 2 := by decide
      have h6 : (2 : Int) ≤ 2 := by decide
      by_cases h1 : 1 ≤ ix
      case neg =>
        have hv0 : v = false := by rw [HV.out]; simp only [decide_eq_false h1, Bool.false_and]
        have d0 : decide (1 ≤ ix) = false := decide_eq_false h1
        subst hv0
        go_enter Try.func59, Try.ntmps59
        go_wp2_with fail
        refine HLD.out.mono ?_
        rintro e w2 ⟨v, rfl, c, hvv, hsc, _, _, hb⟩
        injection hvv with hvv
        subst hvv
        obtain ⟨⟨b0, b1, b2, b3⟩, _⟩ := four_cells ((heap_alloc_old w2 (.cells #[.slice c.v.a c.v.len c.v.cap, .slice c.l.a c.l.len c.l.cap] 26) (lt_of_block (HBX.out _ hb))).trans (HBX.out _ hb))
        go_wp2_with fail
        go_ret
        exact ⟨by first | rfl | simp [h1], below_alloc (below_then HXB.out hb) _⟩
      by_cases h2 : ix ≤ 1099511627776
      case neg =>
        have hv0 : v = false := by rw [HV.out]; simp only [decide_eq_false h2, Bool.and_false, Bool.false_and]
        have d0 : decide (ix ≤ 1099511627776) = false := decide_eq_false h2
        subst hv0
        go_enter Try.func59, Try.ntmps59
        go_wp2_with fail
        refine HLD.out.mono ?_
        rintro e w2 ⟨v, rfl, c, hvv, hsc, _, _, hb⟩
        injection hvv with hvv
        subst hvv
        obtain ⟨⟨b0, b1, b2, b3⟩, _⟩ := four_cells ((heap_alloc_old w2 (.cells #[.slice c.v.a c.v.len c.v.cap, .slice c.l.a c.l.len c.l.cap] 26) (lt_of_block (HBX.out _ hb))).trans (HBX.out _ hb))
        go_wp2_with fail
        go_ret
        exact ⟨by first | rfl | simp [h2], below_alloc (below_then HXB.out hb) _⟩
      by_cases h3 : 0 ≤ tm
      case neg =>
        have hv0 : v = false := by rw [HV.out]; simp only [decide_eq_false h3, Bool.and_false, Bool.false_and]
        have d0 : decide (0 ≤ tm) = false := decide_eq_false h3
        subst hv0
        go_enter Try.func59, Try.ntmps59
        go_wp2_with fail
        refine HLD.out.mono ?_
        rintro e w2 ⟨v, rfl, c, hvv, hsc, _, _, hb⟩
        injection hvv with hvv
        subst hvv
        obtain ⟨⟨b0, b1, b2, b3⟩, _⟩ := four_cells ((heap_alloc_old w2 (.cells #[.slice c.v.a c.v.len c.v.cap, .slice c.l.a c.l.len c.l.cap] 26) (lt_of_block (HBX.out _ hb))).trans (HBX.out _ hb))
        go_wp2_with fail
        go_ret
        exact ⟨by first | rfl | simp [h3], below_alloc (below_then HXB.out hb) _⟩
      by_cases h4 : tm ≤ 1099511627776
      case neg =>
        have hv0 : v = false := by rw [HV.out]; simp only [decide_eq_false h4, Bool.and_false, Bool.false_and]
        have d0 : decide (tm ≤ 1099511627776) = false := decide_eq_false h4
        subst hv0
        go_enter Try.func59, Try.ntmps59
        go_wp2_with fail
        refine HLD.out.mono ?_
        rintro e w2 ⟨v, rfl, c, hvv, hsc, _, _, hb⟩
        injection hvv with hvv
        subst hvv
        obtain ⟨⟨b0, b1, b2, b3⟩, _⟩ := four_cells ((heap_alloc_old w2 (.cells #[.slice c.v.a c.v.len c.v.cap, .slice c.l.a c.l.len c.l.cap] 26) (lt_of_block (HBX.out _ hb))).trans (HBX.out _ hb))
        go_wp2_with fail
        go_ret
        exact ⟨by first | rfl | simp [h4], below_alloc (below_then HXB.out hb) _⟩
      by_cases h7 : (s.len : Int) ≤ 2048
      case neg =>
        have hv0 : v = false := by rw [HV.out]; simp only [decide_eq_false h7, Bool.and_false]
        have d0 : decide ((s.len : Int) ≤ 2048) = false := decide_eq_false h7
        subst hv0
        go_enter Try.func59, Try.ntmps59
        go_wp2_with fail
        refine HLD.out.mono ?_
        rintro e w2 ⟨v, rfl, c, hvv, hsc, _, _, hb⟩
        injection hvv with hvv
        subst hvv
        obtain ⟨⟨b0, b1, b2, b3⟩, _⟩ := four_cells ((heap_alloc_old w2 (.cells #[.slice c.v.a c.v.len c.v.cap, .slice c.l.a c.l.len c.l.cap] 26) (lt_of_block (HBX.out _ hb))).trans (HBX.out _ hb))
        go_wp2_with fail
        go_ret
        exact ⟨by first | rfl | simp [h7], below_alloc (below_then HXB.out hb) _⟩
      have hv1 : v = true := by rw [HV.out]; simp only [decide_eq_true h1, decide_eq_true h2, decide_eq_true h3, decide_eq_true h4, decide_eq_true h5, decide_eq_true h6, decide_eq_true h7, Bool.and_true]
      subst hv1
      go_enter Try.func59, Try.ntmps59
      go_wp2_with fail
      refine HLD.out.mono ?_
      rintro e w2 ⟨v, rfl, c, hvv, hsc, _, _, hb⟩
      injection hvv with hvv
      subst hvv
      obtain ⟨⟨b0, b1, b2, b3⟩, _⟩ := four_cells ((heap_alloc_old w2 (.cells #[.slice c.v.a c.v.len c.v.cap, .slice c.l.a c.l.len c.l.cap] 26) (lt_of_block (HBX.out _ hb))).trans (HBX.out _ hb))
      go_wp2_with fail
      go_ret
      exact ⟨by first | rfl | simp [h7], below_alloc (below_then HXB.out hb) _⟩
  · have hk2' : (kd == 2) = false := beq_eq_false_iff_ne.2 hk2
    rw [decide_eq_true hk2, Bool.true_or, Bool.true_and] at hv
    have HV := Lib.hid hv
    clear hv HLD
    by_cases h1 : 1 ≤ ix
    case neg =>
      have hv0 : v = false := by rw [HV.out]; simp only [decide_eq_false h1, Bool.false_and]
      have d0 : decide (1 ≤ ix) = false := decide_eq_false h1
      subst hv0
      go_enter Try.func59, Try.ntmps59
      go_wp2_with fail
      go_ret
      exact ⟨by first | rfl | simp [h1], HXB.out⟩
    by_cases h2 : ix ≤ 1099511627776
    case neg =>
      have hv0 : v = false := by rw [HV.out]; simp only [decide_eq_false h2, Bool.and_false, Bool.false_and]
      have d0 : decide (ix ≤ 1099511627776) = false := decide_eq_false h2
      subst hv0
      go_enter Try.func59, Try.ntmps59
      go_wp2_with fail
      go_ret
      exact ⟨by first | rfl | simp [h2], HXB.out⟩
    by_cases h3 : 0 ≤ tm
    case neg =>
      have hv0 : v = false := by rw [HV.out]; simp only [decide_eq_false h3, Bool.and_false, Bool.false_and]
      have d0 : decide (0 ≤ tm) = false := decide_eq_false h3
      subst hv0
      go_enter Try.func59, Try.ntmps59
      go_wp2_with fail
      go_ret
      exact ⟨by first | rfl | simp [h3], HXB.out⟩
    by_cases h4 : tm ≤ 1099511627776
    case neg =>
      have hv0 : v = false := by rw [HV.out]; simp only [decide_eq_false h4, Bool.and_false, Bool.false_and]
      have d0 : decide (tm ≤ 1099511627776) = false := decide_eq_false h4
      subst hv0
      go_enter Try.func59, Try.ntmps59
      go_wp2_with fail
      go_ret
      exact ⟨by first | rfl | simp [h4], HXB.out⟩
    by_cases h5 : 0 ≤ kd
    case neg =>
      have hv0 : v = false := by rw [HV.out]; simp only [decide_eq_false h5, Bool.and_false, Bool.false_and]
      have d0 : decide (0 ≤ kd) = false := decide_eq_false h5
      subst hv0
      go_enter Try.func59, Try.ntmps59
      go_wp2_with fail
      go_ret
      exact ⟨by first | rfl | simp [h5], HXB.out⟩
    by_cases h6 : kd ≤ 2
    case neg =>
      have hv0 : v = false := by rw [HV.out]; simp only [decide_eq_false h6, Bool.and_false, Bool.false_and]
      have d0 : decide (kd ≤ 2) = false := decide_eq_false h6
      subst hv0
      go_enter Try.func59, Try.ntmps59
      go_wp2_with fail
      go_ret
      exact ⟨by first | rfl | simp [h6], HXB.out⟩
    by_cases h7 : (s.len : Int) ≤ 2048
    case neg =>
      have hv0 : v = false := by rw [HV.out]; simp only [decide_eq_false h7, Bool.and_false]
      have d0 : decide ((s.len : Int) ≤ 2048) = false := decide_eq_false h7
      subst hv0
      go_enter Try.func59, Try.ntmps59
      go_wp2_with fail
      go_ret
      exact ⟨by first | rfl | simp [h7], HXB.out⟩
    have hv1 : v = true := by rw [HV.out]; simp only [decide_eq_true h1, decide_eq_true h2, decide_eq_true h3, decide_eq_true h4, decide_eq_true h5, decide_eq_true h6, decide_eq_true h7, Bool.and_true]
    subst hv1
    go_enter Try.func59, Try.ntmps59
    go_wp2_with fail
    go_ret
    exact ⟨by first | rfl | simp [h7], HXB.out⟩
/-- a row of entries that is only read, in blocks that P holds of -/
structure EnAt (w : World) (P : Nat → Prop) (us : List En) (a : Option Addr) (n : Nat) : Prop where
  len : us.length = n
  row : RowN w a 4 n (us.flatMap En.cells)
  ok : ∀ u ∈ us, Sl.ok w u.s ∧ SlP P u.s
  far : ∀ b off, a = some ⟨b, off, none⟩ → 0 < n → P b
theorem EnAt.nil (w : World) (P : Nat → Prop) : EnAt w P [] none 0 := ⟨rfl, RowN.nil _ _ _, fun u hu => (by cases hu), fun _ _ h => (by cases h)⟩
theorem EnAt.below {w w' : World} {P : Nat → Prop} {us : List En} {a : Option Addr} {n : Nat} (h : EnAt w P us a n) (hb : Below w.heap.size w w') : EnAt w' P us a n :=
  ⟨h.len, h.row.below hb, fun u hu => ⟨(h.ok u hu).1.below hb, (h.ok u hu).2⟩, h.far⟩
theorem Sl.ok.touch {w w' : World} {P : Nat → Prop} {s : Sl} {S : List Nat} (h : Sl.ok w s) (hp : SlP P s) (ht : Touch S w w') (hS : ∀ b, P b → b ∉ S) : Sl.ok w' s := ⟨h.1.touch ht fun b off e hn => hS b (hp b off e hn), h.2⟩
theorem EnAt.touch {w w' : World} {P : Nat → Prop} {us : List En} {a : Option Addr} {n : Nat} {S : List Nat} (h : EnAt w P us a n) (ht : Touch S w w') (hS : ∀ b, P b → b ∉ S) : EnAt w' P us a n :=
  ⟨h.len, h.row.touch ht fun b off e hn => hS b (h.far b off e (by omega)), fun u hu => ⟨(h.ok u hu).1.touch (h.ok u hu).2 ht hS, (h.ok u hu).2⟩, h.far⟩
theorem EnAt.mono {w : World} {P Q : Nat → Prop} {us : List En} {a : Option Addr} {n : Nat} (h : EnAt w P us a n) (hPQ : ∀ b, P b → Q b) : EnAt w Q us a n :=
  ⟨h.len, h.row, fun u hu => ⟨(h.ok u hu).1, (h.ok u hu).2.mono hPQ⟩, fun b off e hn => hPQ b (h.far b off e hn)⟩
/-- not the log, not its row -/
def Off (N : Nat) (ae : Option Addr) (b : Nat) : Prop := b ≠ N ∧ Value.ownBlock (.slice ae 0 0) ≠ some b
theorem NStep.touch {w w' : World} {N : Nat} {ae ae' : Option Addr} (hs : NStep w w' N ae ae') : Touch (N :: (Value.ownBlock (.slice ae 0 0)).toList) w w' :=
  ⟨hs.os, hs.tape, hs.output, hs.size, fun k hk hn => hs.block k hk (fun e => hn (by simp [e])) (fun e => hn (by simp [e]))⟩
theorem off_not {N : Nat} {ae : Option Addr} : ∀ b, Off N ae b → b ∉ N :: (Value.ownBlock (.slice ae 0 0)).toList := fun b hb hm => by
  rcases List.mem_cons.1 hm with rfl | hm
  · exact hb.1 rfl
  · exact hb.2 (by simpa using hm)
theorem EnAt.nstep {w w' : World} {N : Nat} {ae ae' : Option Addr} {us : List En} {a : Option Addr} {n : Nat} (h : EnAt w (Off N ae) us a n) (hs : NStep w w' N ae ae') : EnAt w' (Off N ae) us a n := h.touch hs.touch off_not
/-- 'append(es, e)' as one step of a region that draws -/
theorem step_appendE {w : World} {ops : Array Oper} {o : Oper} {a : Act} {K : Act → World → Prop} {Q : Exit → Act → World → Prop} {E : Prop} (hgd : o.guard = none) (s x : Operand)
    (ho : o.op = .call { callee := .builtin .append, args := #[s, x], argTypes := #[22, 22] })
    (base : Nat) (ao : Option Addr) (n cap : Nat) (vs : List Value) (hs : a.eval s = .slice ao n cap) (hown : w.ownsRow base 41 4 (.slice ao n cap) n vs)
    (ax : Option Addr) (m c : Nat) (xs : List Value) (hx : a.eval x = .slice ax m c) (hrow : RowN w ax 4 m xs) (hnil : ax = none → c = 0) (h1 : ∀ u ∈ xs, u.oneCell' = true) (hbig : n + m ≤ 2000000000000) (hbase : base ≤ w.heap.size) (N : Nat) (hN : n + m = N)
    (h : ∀ ao' cap' w', w'.ownsRow base 41 4 (.slice ao' N cap') N (vs ++ xs) → w.grownBy w' (Value.ownBlock (.slice ao n cap)) →
      (Value.ownBlock (.slice ao' N cap') = Value.ownBlock (.slice ao n cap) ∨ Value.ownBlock (.slice ao' N cap') = some w.heap.size) → K (a.put o.dst (.slice ao' N cap')) w') :
    if Region.wanted o (yielded ops a.tmps) = true then Oper.wp Try.prog o a w K Q else E := by
  subst hN
  have hw : Region.wanted o (yielded ops a.tmps) = true := by simp [Region.wanted, hgd]
  rw [if_pos hw]
  obtain ⟨i0, hi, hz0, hz1, hz2⟩ := info_parts info_entry
  obtain ⟨ao', cap', w', hr, h2, h3, h4⟩ := run_append_row (P := Try.prog) w base 22 o.type 41 i0 _ 4 48 Try.underlying22 hi hz0 hz1 hz2 rfl (by decide) ao n cap vs hown ax m c xs hrow.1 hrow.news hnil h1 (by simp only [maxLen]; omega) (by omega) hbase
  unfold Oper.wp execOp
  simp only [ho, resolve, invoke, builtin, Sem.run_bind, Sem.run_pure, Result.andThen_ok, List.map_toArray, List.map_cons, List.map_nil, hs, hx, hr]
  exact h ao' cap' w' h2 h3 h4
/-- the log behind an entry more -/
theorem log_snoc {w w2 w3 : World} {base N n cap cap3 : Nat} {ix tm : Int} {c : Cf} {es : List En} {ao ao3 : Option Addr} {o : Obj} {l : En} (h : LogAt w base N ix tm c es ao n cap) (hb2 : Below w.heap.size w w2) (hg3 : (w2.alloc o).grownBy w3 (Value.ownBlock (.slice ao n cap)))
    (hown3 : w3.ownsRow base 41 4 (.slice ao3 (n + 1) cap3) (n + 1) (es.flatMap En.cells ++ l.cells)) (hv : Own8 w2 w.heap.size l.s.a l.s.len l.s.cap l.s.bs)
    (hat : Value.ownBlock (.slice ao3 (n + 1) cap3) = Value.ownBlock (.slice ao n cap) ∨ Value.ownBlock (.slice ao3 (n + 1) cap3) = some (w2.alloc o).heap.size) :
    w3.heap[N]? = some (.cells #[.int .i64 ix, .int .i64 tm, .slice c.v.a c.v.len c.v.cap, .slice c.l.a c.l.len c.l.cap, .slice ao n cap] 103 (0, 0)) ∧ LogAt (w3.setCell ⟨N, 4, none⟩ (.slice ao3 (n + 1) cap3)) base N ix tm c (es ++ [l]) ao3 (n + 1) cap3 ∧ NStep w (w3.setCell ⟨N, 4, none⟩ (.slice ao3 (n + 1) cap3)) N ao ao3 := by
  have hNl := lt_of_block h.cell
  have hz2 := hb2.size
  have hlo := h.lo
  have hmid : ∀ g, g < w2.heap.size → (w2.alloc o).heap[g]? = w2.heap[g]? := fun g hg => heap_alloc_old w2 o hg
  have hrl := h.row.lt
  have h3 : ∀ g, g < w2.heap.size → Value.ownBlock (.slice ao n cap) ≠ some g → w3.heap[g]? = w2.heap[g]? := fun g hg hn => (hg3.block g (by rw [World.size_alloc]; omega) (fun e => hn e.symm)).trans (hmid g hg)
  have hcell2 := (hb2.block N hNl).trans h.cell
  have hrow2 : w2.ownsRow base 41 4 (.slice ao n cap) n (es.flatMap En.cells) := own_keep h.row fun g _ hl => hb2.block g hl
  have hN3 : w3.heap[N]? = some (.cells #[.int .i64 ix, .int .i64 tm, .slice c.v.a c.v.len c.v.cap, .slice c.l.a c.l.len c.l.cap, .slice ao n cap] 103 (0, 0)) := (h3 N (by omega) (own_ne hrow2 hcell2 (by decide))).trans hcell2
  have hset : ∀ g, g ≠ N → (w3.setCell ⟨N, 4, none⟩ (.slice ao3 (n + 1) cap3)).heap[g]? = w3.heap[g]? := fun g hg => Below.heap_setCell w3 _ _ g (by simpa using hg)
  have hz3 := hg3.size
  rw [World.size_alloc] at hz3
  have k8 : ∀ (a : Option Addr) (len c : Nat) (bs : List UInt8), Own8 w2 base a len c bs → Own8 (w3.setCell ⟨N, 4, none⟩ (.slice ao3 (n + 1) cap3)) base a len c bs := fun a len c bs hu => own_keep hu fun g hg hl => (hset g (fun e => own_ne hu hcell2 (by decide) (e ▸ hg))).trans (h3 g hl (fun e => own_apart hrow2 hu (by decide) g e hg))
  have kz : ∀ s : Is, OwnZ w2 base s → OwnZ (w3.setCell ⟨N, 4, none⟩ (.slice ao3 (n + 1) cap3)) base s := fun s hu => own_keep hu fun g hg hl => (hset g (fun e => own_ne hu hcell2 (by decide) (e ▸ hg))).trans (h3 g hl (fun e => own_apart hrow2 hu (by decide) g e hg))
  refine ⟨hN3, ⟨hlo, ?_, kz _ (own_keep h.vo fun g _ hl => hb2.block g hl), kz _ (own_keep h.le fun g _ hl => hb2.block g hl), by rw [List.length_append, h.len]; rfl, ?_, fun u hu => ?_⟩, ⟨hg3.os.trans hb2.os, hg3.tape.trans hb2.tape, hg3.output.trans hb2.output, by simp [World.setCell]; omega, fun k hk hn hx => ?_, fun g hg => ?_⟩⟩
  · exact set_block hN3 _
  · rw [List.flatMap_append]
    exact own_keep (by simpa using hown3) fun g hg hl => hset g (fun e => own_ne hown3 hN3 (by decide) (e ▸ hg))
  · rcases List.mem_append.1 hu with hu | hu
    · exact k8 _ _ _ _ (own_keep (h.own u hu) fun g _ hl => hb2.block g hl)
    · rw [List.mem_singleton] at hu
      subst hu
      exact k8 _ _ _ _ (own_more hv (by omega))
  · exact (hset k hn).trans ((h3 k (by omega) (fun e => hx ((own_addr ao 0 0 n cap).trans e))).trans (hb2.block k hk))
  · rw [own_addr ao3 0 0 (n + 1) cap3] at hg
    rcases hat with e | e
    · left
      rw [own_addr ao 0 0 n cap, ← e]
      exact hg
    · right
      rw [e] at hg
      injection hg with hg
      rw [World.size_alloc] at hg
      omega
def appendOf : Int → Int → List En → Int
  | _, _, [] => 0
  | i, t, e :: r => if rightE e.ix e.tm e.kd e.s.bs = false then 1 else if e.ix ≠ i + 1 then 60 else if e.tm < t then 42 else appendOf e.ix e.tm r
/-- entries whose bytes lie in blocks from here on -/
def NewE (B : Nat) (vs : List En) : Prop := ∀ v ∈ vs, ∀ g, Value.ownBlock (.slice v.s.a v.s.len v.s.cap) = some g → B ≤ g
/-- what Append comes to -/
def ApPost (w : World) (base N : Nat) (ix tm : Int) (c : Cf) (es us : List En) (ae : Option Addr) (n : Nat) (code : Int) (e : Ending) (w' : World) : Prop :=
  e = .returned (.int .i64 code) ∧ (code ≠ 0 → Below w.heap.size w w') ∧ (code = 0 → ∃ vs ae' cap', vs.map En.says = us.map En.says ∧ LogAt w' base N ix tm c (es ++ vs) ae' (n + us.length) cap' ∧ NStep w w' N ae ae' ∧ NewE w.heap.size vs)
theorem appendOf_idx : ∀ (us : List En) (i t : Int), appendOf i t us = 0 → ∀ (k : Nat) u, us[k]? = some u → u.ix = i + 1 + k ∧ rightE u.ix u.tm u.kd u.s.bs = true
  | [], i, t, _, k, u, h => by simp at h
  | e :: r, i, t, h0, k, u, h => by
    rw [appendOf] at h0
    split at h0
    · omega
    · split at h0
      · omega
      · split at h0
        · omega
        · cases k with
          | zero =>
            simp only [List.getElem?_cons_zero, Option.some.injEq] at h
            subst h
            exact ⟨by omega, by simp_all⟩
          | succ k =>
            rw [List.getElem?_cons_succ] at h
            obtain ⟨h1, h2⟩ := appendOf_idx r _ _ h0 k u h
            exact ⟨by omega, h2⟩
set_option maxRecDepth 100000 in
set_option maxHeartbeats 6400000 in
theorem append_any (base N : Nat) (ix tm : Int) (c : Cf) (es : List En) (ae : Option Addr) (n cap : Nat) (a : Option Addr) (len cp : Nat) (us : List En) (w : World) (h : LogAt w base N ix tm c es ae n cap) (hs : Sound ix tm es) (hn : n + len ≤ 2000000000000)
    (hu : EnAt w (Off N ae) us a len) :
    Calls Try.prog 22 #[.pointer (some ⟨N, 0, none⟩), .slice a len cp] w (ApPost w base N ix tm c es us ae n (appendOf (lastOf ix tm es).1 (lastOf ix tm es).2 us)) := by
  have hl := last_any base N ix tm c es ae n cap w h (by omega)
  have hli := hs.last
  rw [h.len] at hli
  have hrx := hs.rx
  obtain ⟨⟨li, lt⟩, hlo⟩ : ∃ x, x = lastOf ix tm es := ⟨_, rfl⟩
  rw [← hlo] at hl hli ⊢
  simp only at hl hli ⊢
  obtain ⟨code, hcode⟩ : ∃ code, code = appendOf li lt us := ⟨_, rfl⟩
  rw [← hcode]
  have hbig : code = 0 → ∀ u ∈ us, u.s.len ≤ 140737488355328 := fun h0 u hum => by
    obtain ⟨k, hk⟩ := List.getElem?_of_mem hum
    have h1 := (rightE_iff.1 (appendOf_idx us li lt (hcode ▸ h0) k u hk).2).2.2.2.2.2.2.2
    have h2 := (hu.ok u hum).1.1.1
    omega
  have hul := hu.len
  have HL := Lib.hid hl
  have H := Lib.hid h
  have HU := Lib.hid hu
  have HB := Lib.hid hbig
  have HCD := Lib.hid hcode
  have hli0 : 0 ≤ li := by omega
  have hli1 : li ≤ 4398046511104 := by omega
  clear hl h hu hbig hcode hs hlo hli
  go_enter Try.func22, Try.ntmps22
  go_wp2_with fail
  refine HL.out.mono ?_
  rintro e w1 ⟨rfl, hb1⟩
  have HB1 := Lib.hid hb1
  clear hb1
  go_wp2_with fail
  go_loopw [5, 6, 18] (fun vi vt i wr => ∃ (k : Nat) (pi pt : Int), i = .int .i64 k ∧ vi = .int .i64 pi ∧ vt = .int .i64 pt ∧ k ≤ len ∧ 0 ≤ pi ∧ pi ≤ 4398046511104 ∧ Hid (code = appendOf pi pt (us.drop k)) ∧ Below w.heap.size w wr) (fun _ _ i _ => len - (intOf i).toNat)
  case atStart => exact ⟨0, li, lt, rfl, rfl, rfl, by omega, by omega, by omega, HCD.out, HB1.out⟩
  case round =>
    obtain ⟨k, pi, pt, rfl, rfl, rfl, hk, hp0, hp1, HG, hbw⟩ := hrel
    have hUw := HU.out.below hbw
    by_cases hlt : k < len
    · obtain ⟨u, huk⟩ : ∃ u, us[k]? = some u := ⟨_, List.getElem?_eq_getElem (by omega)⟩
      obtain ⟨b, off, rfl, e0, e1, e2, e3⟩ := en_at hUw.row hul k hlt u huk
      have hkl : (k : Int) < (len : Int) := by omega
      have hbx : Below wr.heap.size wr (wr.alloc (.cells #[.int .i64 u.ix, .int .i64 u.tm, .int .i64 u.kd, .slice u.s.a u.s.len u.s.cap] 41)) := below_alloc (Below.refl _ _) _
      have hrt := right_any u.ix u.tm u.kd u.s _ ((hUw.ok u (List.mem_of_getElem? huk)).1.below hbx)
      have hg2 := HG.out
      rw [drop_en huk, appendOf] at hg2
      have hbx2 : ∀ w2, Below (wr.alloc (.cells #[.int .i64 u.ix, .int .i64 u.tm, .int .i64 u.kd, .slice u.s.a u.s.len u.s.cap] 41)).heap.size (wr.alloc (.cells #[.int .i64 u.ix, .int .i64 u.tm, .int .i64 u.kd, .slice u.s.a u.s.len u.s.cap] 41)) w2 → w2.heap[wr.heap.size]? = some (.cells #[.int .i64 u.ix, .int .i64 u.tm, .int .i64 u.kd, .slice u.s.a u.s.len u.s.cap] 41 (0, 0)) := fun w2 hb => (hb.block _ (by rw [World.size_alloc]; omega)).trans (heap_alloc_new wr _)
      have hw1 : IntKind.i64.wrap (pi + 1) = pi + 1 := by rw [IntKind.wrap_i64] <;> omega
      have HRT := Lib.hid hrt
      have HG2 := Lib.hid hg2
      have HBX := Lib.hid hbx
      have HBX2 := Lib.hid hbx2
      have HBW := Lib.hid hbw
      clear hUw hrt hg2 hbx hbx2 hbw huk
      cases hv : rightE u.ix u.tm u.kd u.s.bs with
      | false =>
        rw [hv] at HRT HG2
        have hc : code = 1 := by have := HG2.out; rw [if_pos rfl] at this; exact this
        subst hc
        go_wp2_with fail
        refine HRT.out.mono ?_
        rintro e w2 ⟨rfl, hb2⟩
        go_wp2_with fail
        go_ret
        exact ⟨rfl, fun _ => below_then HBW.out (below_then HBX.out hb2), fun h => by cases h⟩
      | true =>
        rw [hv] at HRT HG2
        have hri := rightE_iff.1 hv
        clear hv
        by_cases hix : u.ix = pi + 1
        · by_cases htm : u.tm < pt
          · have hc : code = 42 := by have := HG2.out; rw [if_neg (by simp), if_neg (by simpa using hix), if_pos htm] at this; exact this
            subst hc
            have hne : (u.ix != pi + 1) = false := by simp [hix]
            clear hix
            go_wp2_with fail
            refine HRT.out.mono ?_
            rintro e w2 ⟨rfl, hb2⟩
            obtain ⟨⟨b0, b1, b2, b3⟩, _⟩ := four_cells (HBX2.out _ hb2)
            go_wp2_with fail
            go_ret
            exact ⟨rfl, fun _ => below_then HBW.out (below_then HBX.out hb2), fun h => by cases h⟩
          · have hc : code = appendOf u.ix u.tm (us.drop (k + 1)) := by have := HG2.out; rw [if_neg (by simp), if_neg (by simpa using hix), if_neg htm] at this; exact this
            have HC := Lib.hid hc
            have hne : (u.ix != pi + 1) = false := by simp [hix]
            clear hc hix
            go_wp2_with fail
            refine HRT.out.mono ?_
            rintro e w2 ⟨rfl, hb2⟩
            obtain ⟨⟨b0, b1, b2, b3⟩, _⟩ := four_cells (HBX2.out _ hb2)
            go_wp2_with fail
            go_quiet (fail)
            go_wp2_with fail
            go_roundw
            case rel => exact ⟨k + 1, u.ix, u.tm, by go_num, rfl, rfl, by omega, by omega, by omega, HC.out, below_drewN (below_then HBW.out (below_then HBX.out hb2)) _⟩
            case measure => simp [intOf]; omega
        · have hc : code = 60 := by have := HG2.out; rw [if_neg (by simp), if_pos hix] at this; exact this
          subst hc
          have hne : (u.ix != pi + 1) = true := by simp [hix]
          go_wp2_with fail
          refine HRT.out.mono ?_
          rintro e w2 ⟨rfl, hb2⟩
          obtain ⟨⟨b0, b1, b2, b3⟩, _⟩ := four_cells (HBX2.out _ hb2)
          go_wp2_with fail
          go_ret
          exact ⟨rfl, fun _ => below_then HBW.out (below_then HBX.out hb2), fun h => by cases h⟩
    · have hke : k = len := by omega
      subst hke
      have hc : code = 0 := by rw [HG.out, List.drop_of_length_le (by omega)]; rfl
      subst hc
      obtain ⟨wo, rfl⟩ : ∃ wo, wo = wr := ⟨_, rfl⟩
      have HBW := Lib.hid hbw
      clear hbw hUw
      go_wp2_with fail
      go_loopw [44] (fun i wr => ∃ (q : Nat) (vs : List En) (ae' : Option Addr) (cap' : Nat), i = .int .i64 q ∧ q ≤ k ∧ vs.map En.says = (us.take q).map En.says ∧ LogAt wr base N ix tm c (es ++ vs) ae' (n + q) cap' ∧ NStep w wr N ae ae' ∧ Hid (NewE w.heap.size vs)) (fun i _ => k - (intOf i).toNat)
      case atStart => exact ⟨0, [], ae, cap, rfl, by omega, by simp, by rw [List.append_nil]; exact H.out.below HBW.out, NStep.of_below HBW.out, Lib.hid fun v hv => by cases hv⟩
      case round =>
        obtain ⟨q, vs, ae', cap', rfl, hq, hsay, hL, hst, HNE⟩ := hrel
        have hUw := HU.out.nstep hst
        by_cases hqk : q < k
        · obtain ⟨u, huq⟩ : ∃ u, us[q]? = some u := ⟨_, List.getElem?_eq_getElem (by omega)⟩
          obtain ⟨b, off, rfl, e0, e1, e2, e3⟩ := en_at hUw.row hul q hqk u huq
          have hql : (q : Int) < (k : Int) := by omega
          have hmem := List.mem_of_getElem? huq
          have huo := (hUw.ok u hmem).1
          have hbx : Below wr.heap.size wr (wr.alloc (.cells #[.int .i64 u.ix, .int .i64 u.tm, .int .i64 u.kd, .slice u.s.a u.s.len u.s.cap] 41)) := below_alloc (Below.refl _ _) _
          have hcl := clone_any u.s.a u.s.len u.s.cap u.s.bs _ (huo.below hbx).1 (fun e => by have := huo.2.2.2 e; have := huo.2.1; omega) (HB.out (by simp) u hmem)
          have hbx2 : ∀ w2, Below (wr.alloc (.cells #[.int .i64 u.ix, .int .i64 u.tm, .int .i64 u.kd, .slice u.s.a u.s.len u.s.cap] 41)).heap.size (wr.alloc (.cells #[.int .i64 u.ix, .int .i64 u.tm, .int .i64 u.kd, .slice u.s.a u.s.len u.s.cap] 41)) w2 → w2.heap[wr.heap.size]? = some (.cells #[.int .i64 u.ix, .int .i64 u.tm, .int .i64 u.kd, .slice u.s.a u.s.len u.s.cap] 41 (0, 0)) := fun w2 hb => (hb.block _ (by rw [World.size_alloc]; omega)).trans (heap_alloc_new wr _)
          have HCL := Lib.hid hcl
          have HBX := Lib.hid hbx
          have HBX2 := Lib.hid hbx2
          have HLL := Lib.hid hL
          have HST := Lib.hid hst
          have HUQ := Lib.hid huq
          have HSY := Lib.hid hsay
          have hNl := lt_of_block hL.cell
          have hzst := hst.size
          clear hUw huo hbx hcl hbx2 hL hst huq hmem hsay
          go_wp2_with fail
          refine HCL.out.mono ?_
          rintro e w2 ⟨aq, cq, rfl, hown2, hb2⟩
          obtain ⟨⟨b0, b1, b2, b3⟩, y0, y1, y2, y3⟩ := four_cells (HBX2.out _ hb2)
          have hbb := below_then HBX.out hb2
          have HOW := Lib.hid hown2
          have HBB := Lib.hid hbb
          have HB2 := Lib.hid hb2
          have hz2 := hbb.size
          clear hown2 hbb hb2
          go_wp2_with fail
          obtain ⟨Y, hY⟩ : ∃ Y, Y = w2.setCell ⟨wr.heap.size, 3, none⟩ (.slice aq u.s.len cq) := ⟨_, rfl⟩
          have hbY : Below wr.heap.size wr Y := hY ▸ below_set HBB.out _ (Nat.le_refl _)
          have hYb : Y.heap[wr.heap.size]? = some (.cells #[.int .i64 u.ix, .int .i64 u.tm, .int .i64 u.kd, .slice aq u.s.len cq] 41 (0, 0)) := hY ▸ set_block (i := 3) (HBX2.out _ HB2.out) _
          have hoY : Own8 Y wr.heap.size aq u.s.len cq u.s.bs := by
            have h1 := HOW.out
            rw [hY]
            exact own_more (own_keep h1 fun g hg hl => Below.heap_setCell w2 _ _ g (by have := (h1.lt g hg).1; rw [World.size_alloc] at this; simp; omega)) (by rw [World.size_alloc]; omega)
          have hLY := HLL.out.below hbY
          obtain ⟨⟨_, _, _, _, n4⟩, _⟩ := five_cells hLY.cell
          have n5 : ∀ o, (Y.alloc o).cell? ⟨N, 4, none⟩ = some (.slice ae' (n + q) cap') := fun o => (five_cells ((heap_alloc_old Y o (lt_of_block hLY.cell)).trans hLY.cell)).1.2.2.2.2
          rw [← hY]
          clear b0 b1 b2 b3 y0 y1 y2 y3
          obtain ⟨⟨b0, b1, b2, b3⟩, _⟩ := four_cells hYb
          have HBY := Lib.hid hbY
          have HOY := Lib.hid hoY
          have HLY := Lib.hid hLY
          have hzY := hbY.size
          clear hY hbY hYb hoY hLY
          go_region_law (first
            | (refine step_appendE rfl (.tmp 56) (.tmp 58) rfl base ae' (n + q) cap' ((es ++ vs).flatMap En.cells) rfl (own_keep HLY.out.row fun g _ hl => heap_alloc_old Y _ hl) (some ⟨Y.heap.size, 0, none⟩) 1 1 (En.cells ⟨u.ix, u.tm, u.kd, ⟨aq, u.s.len, cq, u.s.bs⟩⟩) rfl (RowN.of_block (heap_alloc_new Y _) rfl rfl) (fun h => by cases h) (cells_one4 _) (by omega) (by rw [size_drew, World.size_alloc]; have := HLY.out.lo; have := lt_of_block HLY.out.cell; omega) (n + q + 1) rfl ?_
               intro ao3 cap3 w3 hown3 hg3 hat3
               have h3 := log_snoc (l := ⟨u.ix, u.tm, u.kd, ⟨aq, u.s.len, cq, u.s.bs⟩⟩) HLL.out (w2 := Y) HBY.out (grown_undrew hg3) hown3 HOY.out hat3
               have hc3 := (five_cells h3.1).1.2.2.2.2; have hf3 := (five_cells h3.1).2.2.2.2.2; have H3 := Lib.hid h3; clear h3))
          all_goals
            go_wp2_with fail
            go_roundw
            case rel =>
              refine ⟨q + 1, vs ++ [⟨u.ix, u.tm, u.kd, ⟨aq, u.s.len, cq, u.s.bs⟩⟩], ao3, cap3, by go_num, by omega, ?_, ?_, HST.out.trans H3.out.2.2, Lib.hid (?_ : NewE _ _)⟩
              · rw [List.map_append, HSY.out, List.take_add_one, HUQ.out, List.map_append]
                rfl
              · rw [← List.append_assoc]
                exact H3.out.2.1
              · intro v hv g hg
                rcases List.mem_append.1 hv with hv | hv
                · exact HNE.out v hv g hg
                · rw [List.mem_singleton] at hv
                  subst hv
                  exact Nat.le_trans hzst (HOY.out.lt g hg).1
            case measure => simp [intOf]; omega
        · have hqe : q = k := by omega
          subst hqe
          rw [List.take_of_length_le (by omega)] at hsay
          go_wp2_with fail
          go_ret
          exact ⟨rfl, fun h => absurd rfl h, fun _ => ⟨vs, ae', cap', hsay, by rw [hul]; exact hL, hst, HNE.out⟩⟩
end Go.Proofs.Ytcejamblndilbaa
