/- The document's log: New, Last, Term, Has, Newer; an entry that is right but for its configuration. -/
import Derived.Test.YtpaommkjafdghaaOpE
import Derived.BigQuiet
import Derived.BigRegion
namespace Go.Proofs.Ytpaommkjafdghaa
open Go.RowKit

theorem load_rlog {w : World} {B : Nat} {c0 c1 c2 c3 c4 : Value} (h : w.heap[B]? = some (.cells #[c0, c1, c2, c3, c4] 53 (0, 0))) : (loadVar 53 ⟨B, 0, none⟩).run Try.prog w = .ok (.agg #[c0, c1, c2, c3, c4]) w := by
  refine run_loadVar_mid w B 0 _ [c0, c1, c2, c3, c4] _ (fun j v hv => ?_) Try.underlying53 rfl (by kernel_rfl)
  simp only [World.cell?, h, Nat.zero_add]
  rw [← hv]
  simp

set_option maxRecDepth 100000 in
set_option maxHeartbeats 3200000 in
theorem rlast_any (ix tm : Int) (c : Cf) (a : Option Addr) (n cap : Nat) (es : List En) (w : World) (h : EnR w es a n) (hn : n ≤ 2000000000000) :
    Calls Try.prog 22 #[.agg #[.int .i64 ix, .int .i64 tm, .slice c.v.a c.v.len c.v.cap, .slice c.l.a c.l.len c.l.cap, .slice a n cap]] w (RetBox w (.tuple #[.int .i64 (lastOf ix tm es).1, .int .i64 (lastOf ix tm es).2])) := by
  cases n with
  | zero =>
    have he : es = [] := List.eq_nil_of_length_eq_zero h.len
    subst he
    clear h
    go_enter Try.func22, Try.ntmps22
    go_wp2_with fail
    go_quiet (fail)
    go_wp2_with fail
    go_ret2
    exact ⟨rfl, below_drewN (below_alloc (Below.refl _ _) _) _⟩
  | succ m =>
    obtain ⟨e, he⟩ : ∃ e, es[m]? = some e := ⟨_, List.getElem?_eq_getElem (by rw [h.len]; omega)⟩
    have hl : es.getLast? = some e := by rw [List.getLast?_eq_getElem?, h.len]; exact he
    have hlo : lastOf ix tm es = (e.ix, e.tm) := by rw [lastOf, hl]
    obtain ⟨b, off, rfl, e0, e1, e2, e3⟩ := en_at (h.below (below_alloc (Below.refl _ _) (.cells #[.int .i64 ix, .int .i64 tm, .slice c.v.a c.v.len c.v.cap, .slice c.l.a c.l.len c.l.cap, .slice a (m + 1) cap] 53))).row h.len m (by omega) e he
    have hw : IntKind.i64.wrap (((m + 1 : Nat) : Int) - 1) = (m : Int) := by rw [IntKind.wrap_i64] <;> omega
    have hne : (((m + 1 : Nat) : Int) == 0) = false := by simp; omega
    have hi : (m : Int) < ((m + 1 : Nat) : Int) := by omega
    have hi2 : (m : Int) < (m : Int) + 1 := by omega
    have hi3 : (0 : Int) ≤ (m : Int) := by omega
    have hw2 : IntKind.i64.wrap (m : Int) = (m : Int) := by rw [IntKind.wrap_i64] <;> omega
    rw [hlo]
    clear h hl hlo he
    go_enter Try.func22, Try.ntmps22
    go_wp2_with fail
    go_quiet (fail)
    go_wp2_with fail
    go_ret2
    exact ⟨rfl, below_drewN (below_alloc (below_alloc (Below.refl _ _) _) _) _⟩

set_option maxRecDepth 100000 in
set_option maxHeartbeats 3200000 in
theorem rterm_any (ix tm : Int) (c : Cf) (a : Option Addr) (n cap : Nat) (es : List En) (i : Int) (w : World) (h : EnR w es a n) (hs : Sound ix tm es) (hn : n ≤ 2000000000000) :
    Calls Try.prog 40 #[.agg #[.int .i64 ix, .int .i64 tm, .slice c.v.a c.v.len c.v.cap, .slice c.l.a c.l.len c.l.cap, .slice a n cap], .int .i64 i] w (RetBox w (.tuple #[.int .i64 (termOf ix tm es i).1, .bool (termOf ix tm es i).2])) := by
  have hlen := h.len
  by_cases hi : i = ix
  · have ht : termOf ix tm es i = (tm, true) := by unfold termOf; rw [if_neg (by omega), if_pos hi]
    rw [ht]
    subst hi
    clear h hs ht hlen
    go_enter Try.func40, Try.ntmps40
    go_wp2_with fail
    go_ret2
    exact ⟨rfl, below_alloc (Below.refl _ _) _⟩
  · have hib : (i == ix) = false := by simp [hi]
    have hX := h.below (below_alloc (Below.refl _ _) (.cells #[.int .i64 ix, .int .i64 tm, .slice c.v.a c.v.len c.v.cap, .slice c.l.a c.l.len c.l.cap, .slice a n cap] 53))
    have hyes : ∀ k (e : En), es[k]? = some e → e.ix = i → termOf ix tm es i = (e.tm, true) := fun k e he hei => by
      have h1 := hs.idx k e he
      have h2 : k < es.length := (List.getElem?_eq_some_iff.1 he).1
      unfold termOf
      rw [if_neg (by omega), if_neg hi, show (i - ix - 1).toNat = k from by omega, he]
      rfl
    have hno : (∀ k (e : En), es[k]? = some e → e.ix ≠ i) → termOf ix tm es i = (0, false) := fun hall => by
      unfold termOf
      by_cases hc : i < ix ∨ i > ix + es.length
      · rw [if_pos hc]
      · obtain ⟨e, he⟩ : ∃ e, es[(i - ix - 1).toNat]? = some e := ⟨_, List.getElem?_eq_getElem (by omega)⟩
        have h1 := hs.idx _ e he
        exact absurd (by omega) (hall _ e he)
    obtain ⟨t, ht⟩ : ∃ t, t = termOf ix tm es i := ⟨_, rfl⟩
    rw [← ht] at hyes hno ⊢
    have HX := Lib.hid hX
    have HY := Lib.hid hyes
    have HNO := Lib.hid hno
    have HLEN := Lib.hid hlen
    clear h hs hX hyes hno ht hi hlen
    go_enter Try.func40, Try.ntmps40
    go_wp2_with fail
    go_loopw [6] (fun j wr => ∃ (k q : Nat), j = .int .i64 k ∧ k ≤ n ∧ Hid (∀ m (e : En), m < k → es[m]? = some e → e.ix ≠ i) ∧ wr = (w.alloc (.cells #[.int .i64 ix, .int .i64 tm, .slice c.v.a c.v.len c.v.cap, .slice c.l.a c.l.len c.l.cap, .slice a n cap] 53)).drewN q) (fun j _ => n - (intOf j).toNat)
    case atStart => exact ⟨0, 0, rfl, by omega, (fun m e hm _ => absurd hm (by omega)), rfl⟩
    case round =>
      obtain ⟨k, q, rfl, hk, HP, rfl⟩ := hrel
      by_cases hlt : k < n
      · obtain ⟨e, hek⟩ : ∃ e, es[k]? = some e := ⟨_, List.getElem?_eq_getElem (by rw [HLEN.out]; exact hlt)⟩
        obtain ⟨b, off, rfl, e0, e1, e2, e3⟩ := en_at HX.out.row HLEN.out k hlt e hek
        have hkn : (k : Int) < (n : Int) := by omega
        by_cases hei : e.ix = i
        · have hr := HY.out k e hek hei
          subst hr
          subst hei
          clear hek
          go_wp2_with fail
          go_ret2
          exact ⟨rfl, below_drewN (below_alloc (Below.refl _ _) _) _⟩
        · have hne : (e.ix == i) = false := by simp [hei]
          have HEK := Lib.hid hek
          have HEI := Lib.hid hei
          clear hek hei
          go_wp2_with fail
          go_roundw
          case rel =>
            refine ⟨k + 1, q, by go_num, by omega, fun m e' hm he' => ?_, by first | rfl | simp⟩
            by_cases hmk : m = k
            · subst hmk
              rw [HEK.out] at he'
              injection he' with he'
              subst he'
              exact HEI.out
            · exact HP.out m e' (by omega) he'
          case measure => simp [intOf]; omega
      · have hr := HNO.out (fun m e he => HP.out m e (by have := (List.getElem?_eq_some_iff.1 he).1; have := HLEN.out; omega) he)
        subst hr
        go_wp2_with fail
        go_ret2
        exact ⟨rfl, below_drewN (below_alloc (Below.refl _ _) _) _⟩

set_option maxRecDepth 100000 in
set_option maxHeartbeats 3200000 in
theorem rhas_any (ix tm : Int) (c : Cf) (a : Option Addr) (n cap : Nat) (es : List En) (i t : Int) (w : World) (h : EnR w es a n) (hs : Sound ix tm es) (hn : n ≤ 2000000000000) :
    Calls Try.prog 43 #[.agg #[.int .i64 ix, .int .i64 tm, .slice c.v.a c.v.len c.v.cap, .slice c.l.a c.l.len c.l.cap, .slice a n cap], .int .i64 i, .int .i64 t] w (RetBox w (.bool (hasOf ix tm es i t))) := by
  have hX := below_alloc (Below.refl w.heap.size w) (.cells #[.int .i64 ix, .int .i64 tm, .slice c.v.a c.v.len c.v.cap, .slice c.l.a c.l.len c.l.cap, .slice a n cap] 53)
  have hl := rterm_any ix tm c a n cap es i _ (h.below hX) hs hn
  unfold hasOf
  obtain ⟨u, hu⟩ : ∃ u, u = termOf ix tm es i := ⟨_, rfl⟩
  rw [← hu] at hl ⊢
  obtain ⟨ui, ut⟩ := u
  have HL := Lib.hid hl
  have HX := Lib.hid hX
  clear hl h hu hs hX
  cases ut with
  | true =>
    go_enter Try.func43, Try.ntmps43
    go_wp2_with fail
    refine HL.out.mono ?_
    rintro e w2 ⟨rfl, hb2⟩
    go_wp2_with fail
    go_ret
    exact ⟨by simp; rw [Bool.eq_iff_iff]; simp, below_then HX.out hb2⟩
  | false =>
    go_enter Try.func43, Try.ntmps43
    go_wp2_with fail
    refine HL.out.mono ?_
    rintro e w2 ⟨rfl, hb2⟩
    go_wp2_with fail
    go_ret
    exact ⟨by simp, below_then HX.out hb2⟩

set_option maxRecDepth 100000 in
set_option maxHeartbeats 3200000 in
theorem rnewer_any (ix tm : Int) (c : Cf) (a : Option Addr) (n cap : Nat) (es : List En) (i t : Int) (w : World) (h : EnR w es a n) (hn : n ≤ 2000000000000) :
    Calls Try.prog 44 #[.agg #[.int .i64 ix, .int .i64 tm, .slice c.v.a c.v.len c.v.cap, .slice c.l.a c.l.len c.l.cap, .slice a n cap], .int .i64 i, .int .i64 t] w (RetBox w (.bool (newerOf (lastOf ix tm es) i t))) := by
  have hX := below_alloc (Below.refl w.heap.size w) (.cells #[.int .i64 ix, .int .i64 tm, .slice c.v.a c.v.len c.v.cap, .slice c.l.a c.l.len c.l.cap, .slice a n cap] 53)
  have hl := rlast_any ix tm c a n cap es _ (h.below hX) hn
  obtain ⟨u, hu⟩ : ∃ u, u = lastOf ix tm es := ⟨_, rfl⟩
  rw [← hu] at hl ⊢
  obtain ⟨ui, ut⟩ := u
  have HL := Lib.hid hl
  have HX := Lib.hid hX
  clear hl h hu hX
  unfold newerOf
  simp only
  by_cases h1 : t = ut
  · subst h1
    rw [show decide (t > t) = false from decide_eq_false (by omega), decide_eq_true (rfl : t = t), Bool.false_or, Bool.true_and]
    go_enter Try.func44, Try.ntmps44
    go_wp2_with fail
    refine HL.out.mono ?_
    rintro e w2 ⟨rfl, hb2⟩
    go_wp2_with fail
    go_ret
    exact ⟨by simp, below_then HX.out hb2⟩
  · have hne : (t != ut) = true := by simp [h1]
    rw [decide_eq_false h1, Bool.false_and, Bool.or_false]
    go_enter Try.func44, Try.ntmps44
    go_wp2_with fail
    refine HL.out.mono ?_
    rintro e w2 ⟨rfl, hb2⟩
    go_wp2_with fail
    go_ret
    exact ⟨by simp, below_then HX.out hb2⟩

set_option maxRecDepth 100000 in
set_option maxHeartbeats 3200000 in
theorem rnew_ref (index term : Int) (c : Cf) (w : World) :
    Calls Try.prog 21 #[.int .i64 index, .int .i64 term, .agg #[.slice c.v.a c.v.len c.v.cap, .slice c.l.a c.l.len c.l.cap]] w (RetBox w (.agg #[.int .i64 (clampN index), .int .i64 (clampN term), .slice c.v.a c.v.len c.v.cap, .slice c.l.a c.l.len c.l.cap, .slice none 0 0])) := by
  unfold clampN
  by_cases h1 : index < 0 <;> by_cases h2 : 1099511627776 < index <;> by_cases h3 : term < 0 <;> by_cases h4 : 1099511627776 < term
  all_goals first
    | (exfalso; omega)
    | (simp only [h1, h2, h3, h4, if_true, if_false]
       go_enter Try.func21, Try.ntmps21
       go_wp2_with fail
       exact bodyPost_ret (results_cell Try.results21 rfl (load_rlog (alloc_new1 w _ _))) rfl ⟨rfl, below_alloc (below_alloc (Below.refl _ _) _) _⟩)
end Go.Proofs.Ytpaommkjafdghaa
