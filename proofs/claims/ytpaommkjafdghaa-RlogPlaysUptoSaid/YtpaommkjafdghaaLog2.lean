/- Base, Newer, Term, Has. -/
import Derived.Test.YtpaommkjafdghaaLog1
namespace Go.Proofs.Ytpaommkjafdghaa
open Go.RowKit

set_option maxRecDepth 100000 in
set_option maxHeartbeats 3200000 in
theorem base_any (base N : Nat) (ix tm : Int) (c : Cf) (es : List En) (ae : Option Addr) (n cap : Nat) (w : World) (h : LogAt w base N ix tm c es ae n cap) :
    Calls Try.prog 29 #[.pointer (some ⟨N, 0, none⟩)] w (RetBox w (.tuple #[.int .i64 ix, .int .i64 tm])) := by
  obtain ⟨⟨c0, c1, c2, c3, c4⟩, _⟩ := five_cells h.cell
  clear h
  go_enter Try.func29, Try.ntmps29
  go_wp2_with fail
  go_quiet (fail)
  go_wp2_with fail
  go_ret2
  exact ⟨rfl, below_drewN (Below.refl _ _) _⟩

/-- is a log that ends so at least as new? -/
def newerOf (u : Int × Int) (i t : Int) : Bool := decide (t > u.2) || (decide (t = u.2) && decide (i ≥ u.1))

set_option maxRecDepth 100000 in
set_option maxHeartbeats 3200000 in
theorem newer_any (base N : Nat) (ix tm : Int) (c : Cf) (es : List En) (ae : Option Addr) (n cap : Nat) (i t : Int) (w : World) (h : LogAt w base N ix tm c es ae n cap) (hn : n ≤ 2000000000000) :
    Calls Try.prog 19 #[.pointer (some ⟨N, 0, none⟩), .int .i64 i, .int .i64 t] w (RetBox w (.bool (newerOf (lastOf ix tm es) i t))) := by
  have hl := last_any base N ix tm c es ae n cap w h hn
  obtain ⟨u, hu⟩ : ∃ u, u = lastOf ix tm es := ⟨_, rfl⟩
  rw [← hu] at hl ⊢
  obtain ⟨ui, ut⟩ := u
  have HL := Lib.hid hl
  clear hl h hu
  unfold newerOf
  simp only
  by_cases h1 : t > ut
  · rw [decide_eq_true h1, Bool.true_or]
    go_enter Try.func19, Try.ntmps19
    go_wp2_with fail
    refine HL.out.mono ?_
    rintro e w2 ⟨rfl, hb2⟩
    go_wp2_with fail
    go_ret
    exact ⟨rfl, hb2⟩
  · rw [decide_eq_false h1, Bool.false_or]
    have h1' : ¬ ut < t := h1
    by_cases h2 : t = ut
    · subst h2
      rw [decide_eq_true rfl, Bool.true_and]
      go_enter Try.func19, Try.ntmps19
      go_wp2_with fail
      refine HL.out.mono ?_
      rintro e w2 ⟨rfl, hb2⟩
      go_wp2_with fail
      go_ret
      exact ⟨by simp, hb2⟩
    · rw [decide_eq_false h2, Bool.false_and]
      have h2' : (t == ut) = false := beq_eq_false_iff_ne.2 h2
      go_enter Try.func19, Try.ntmps19
      go_wp2_with fail
      refine HL.out.mono ?_
      rintro e w2 ⟨rfl, hb2⟩
      go_wp2_with fail
      go_ret
      exact ⟨by simp [h1'], hb2⟩

/-- the indexes follow the base -/
structure Sound (ix tm : Int) (es : List En) : Prop where
  rx : 0 ≤ ix ∧ ix ≤ 1099511627776
  rt : 0 ≤ tm ∧ tm ≤ 1099511627776
  idx : ∀ (k : Nat) e, es[k]? = some e → e.ix = ix + 1 + k
theorem Sound.last {ix tm : Int} {es : List En} (h : Sound ix tm es) : (lastOf ix tm es).1 = ix + es.length := by
  unfold lastOf
  cases hl : es.getLast? with
  | none =>
    rw [List.getLast?_eq_none_iff] at hl
    subst hl
    simp
  | some e =>
    have h0 : 0 < es.length := List.length_pos_iff.2 (fun hc => by rw [hc] at hl; cases hl)
    rw [List.getLast?_eq_getElem?] at hl
    have := h.idx _ e hl
    simp only
    omega
/-- the term at an index -/
def termOf (ix tm : Int) (es : List En) (i : Int) : Int × Bool :=
  if i < ix ∨ i > ix + es.length then (0, false) else if i = ix then (tm, true) else (((es[(i - ix - 1).toNat]?.map En.tm).getD 0), true)

set_option maxRecDepth 100000 in
set_option maxHeartbeats 3200000 in
theorem term_any (base N : Nat) (ix tm : Int) (c : Cf) (es : List En) (ae : Option Addr) (n cap : Nat) (i : Int) (w : World) (h : LogAt w base N ix tm c es ae n cap) (hs : Sound ix tm es) (hn : n ≤ 2000000000000) :
    Calls Try.prog 14 #[.pointer (some ⟨N, 0, none⟩), .int .i64 i] w (RetBox w (.tuple #[.int .i64 (termOf ix tm es i).1, .bool (termOf ix tm es i).2])) := by
  have hl := last_any base N ix tm c es ae n cap w h hn
  have hli := hs.last
  obtain ⟨u, hu⟩ : ∃ u, u = lastOf ix tm es := ⟨_, rfl⟩
  rw [← hu] at hl hli
  obtain ⟨ui, ut⟩ := u
  simp only at hli
  rw [h.len] at hli
  subst hli
  have hix := hs.rx
  have hc : ∀ w2, Below w.heap.size w w2 → w2.cell? ⟨N, 0, none⟩ = some (.int .i64 ix) ∧ w2.cell? ⟨N, 1, none⟩ = some (.int .i64 tm) ∧ w2.cell? ⟨N, 4, none⟩ = some (.slice ae n cap) := fun w2 hb => by
    obtain ⟨⟨c0, c1, c2, c3, c4⟩, _⟩ := five_cells (h.below hb).cell
    exact ⟨c0, c1, c4⟩
  have HC := Lib.hid hc
  have HL := Lib.hid hl
  have H := Lib.hid h
  have HLN := Lib.hid h.len
  clear hl hu hs hc h
  unfold termOf
  rw [HLN.out]
  by_cases h1 : i < ix
  · rw [if_pos (.inl h1)]
    go_enter Try.func14, Try.ntmps14
    go_wp2_with fail
    refine HL.out.mono ?_
    rintro e w2 ⟨rfl, hb2⟩
    obtain ⟨c0, c1, c4⟩ := HC.out _ hb2
    go_wp2_with fail
    go_ret2
    exact ⟨rfl, hb2⟩
  by_cases h2 : i > ix + n
  · rw [if_pos (.inr h2)]
    have h2' : ix + (n : Int) < i := h2
    go_enter Try.func14, Try.ntmps14
    go_wp2_with fail
    refine HL.out.mono ?_
    rintro e w2 ⟨rfl, hb2⟩
    obtain ⟨c0, c1, c4⟩ := HC.out _ hb2
    go_wp2_with fail
    go_ret2
    exact ⟨rfl, hb2⟩
  rw [if_neg (by omega)]
  have h2' : ¬ ix + (n : Int) < i := h2
  by_cases h3 : i = ix
  · rw [if_pos h3]
    subst h3
    go_enter Try.func14, Try.ntmps14
    go_wp2_with fail
    refine HL.out.mono ?_
    rintro e w2 ⟨rfl, hb2⟩
    obtain ⟨c0, c1, c4⟩ := HC.out _ hb2
    go_wp2_with fail
    go_ret2
    exact ⟨rfl, hb2⟩
  · rw [if_neg h3]
    obtain ⟨k, hk⟩ : ∃ k : Nat, i = ix + 1 + k := ⟨(i - ix - 1).toNat, by omega⟩
    subst hk
    have hkn : k < n := by omega
    have hkt : (ix + 1 + (k : Int) - ix - 1).toNat = k := by omega
    rw [hkt]
    obtain ⟨e, he⟩ : ∃ e, es[k]? = some e := ⟨_, List.getElem?_eq_getElem (by rw [HLN.out]; exact hkn)⟩
    rw [he]
    have hcc : ∀ w2, Below w.heap.size w w2 → ∃ b off, ae = some ⟨b, off, none⟩ ∧ w2.cell? ⟨b, off + k * 4 + 1, none⟩ = some (.int .i64 e.tm) := fun w2 hb => by
      obtain ⟨b, off, ha, e0, e1, e2, e3⟩ := en_at (RowN.of_own (H.out.below hb).row) HLN.out k hkn e he
      exact ⟨b, off, ha, e1⟩
    have HCC := Lib.hid hcc
    have hne : (ix + 1 + (k : Int) == ix) = false := by simp; omega
    have hw1 : IntKind.i64.wrap (ix + 1 + (k : Int) - ix) = (k : Int) + 1 := by rw [IntKind.wrap_i64] <;> omega
    have hw2 : IntKind.i64.wrap ((k : Int) + 1 - 1) = (k : Int) := by rw [IntKind.wrap_i64] <;> omega
    have hw3 : IntKind.i64.wrap (k : Int) = (k : Int) := by rw [IntKind.wrap_i64] <;> omega
    have hkl : (k : Int) < (n : Int) := by omega
    have h1' : ¬ ix + 1 + (k : Int) < ix := h1
    clear hcc he hkt h3
    go_enter Try.func14, Try.ntmps14
    go_wp2_with fail
    refine HL.out.mono ?_
    rintro e w2 ⟨rfl, hb2⟩
    obtain ⟨c0, c1, c4⟩ := HC.out _ hb2
    obtain ⟨b, off, rfl, e1⟩ := HCC.out _ hb2
    go_wp2_with fail
    go_quiet (fail)
    go_wp2_with fail
    go_ret2
    exact ⟨rfl, below_drewN hb2 _⟩

def hasOf (ix tm : Int) (es : List En) (i t : Int) : Bool := (termOf ix tm es i).2 && decide ((termOf ix tm es i).1 = t)

set_option maxRecDepth 100000 in
set_option maxHeartbeats 3200000 in
theorem has_any (base N : Nat) (ix tm : Int) (c : Cf) (es : List En) (ae : Option Addr) (n cap : Nat) (i t : Int) (w : World) (h : LogAt w base N ix tm c es ae n cap) (hs : Sound ix tm es) (hn : n ≤ 2000000000000) :
    Calls Try.prog 30 #[.pointer (some ⟨N, 0, none⟩), .int .i64 i, .int .i64 t] w (RetBox w (.bool (hasOf ix tm es i t))) := by
  have hl := term_any base N ix tm c es ae n cap i w h hs hn
  unfold hasOf
  obtain ⟨u, hu⟩ : ∃ u, u = termOf ix tm es i := ⟨_, rfl⟩
  rw [← hu] at hl ⊢
  obtain ⟨ui, ut⟩ := u
  have HL := Lib.hid hl
  clear hl h hu hs
  cases ut with
  | true =>
    go_enter Try.func30, Try.ntmps30
    go_wp2_with fail
    refine HL.out.mono ?_
    rintro e w2 ⟨rfl, hb2⟩
    go_wp2_with fail
    go_ret
    exact ⟨congrArg Ending.returned (congrArg Value.bool (by rw [Bool.true_and, Bool.eq_iff_iff]; simp)), hb2⟩
  | false =>
    go_enter Try.func30, Try.ntmps30
    go_wp2_with fail
    refine HL.out.mono ?_
    rintro e w2 ⟨rfl, hb2⟩
    go_wp2_with fail
    go_ret
    exact ⟨by simp, hb2⟩
end Go.Proofs.Ytpaommkjafdghaa
