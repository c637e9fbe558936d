/- CutFrom, and DropTo's refusal. -/
import Derived.Test.YtpaommkjafdghaaApart
import Derived.BigRegion
namespace Go.Proofs.Ytpaommkjafdghaa
open Go.RowKit

theorem flat_take (es : List En) : ∀ k, (es.flatMap En.cells).take (k * 4) = (es.take k).flatMap En.cells := by
  induction es with
  | nil => intro k; simp
  | cons x r ih =>
    intro k
    cases k with
    | zero => simp
    | succ k =>
      rw [List.take_succ_cons, List.flatMap_cons, List.flatMap_cons, ← ih k, show (k + 1) * 4 = 4 + k * 4 by omega, List.take_add]
      congr 1
/-- a row's beginning -/
theorem own_cut {w : World} {base : Nat} {ae : Option Addr} {n cap : Nat} {es : List En} (h : w.ownsRow base 32 4 (.slice ae n cap) n (es.flatMap En.cells)) (k : Nat) (hk : k ≤ n) : w.ownsRow base 32 4 (.slice ae k cap) k ((es.take k).flatMap En.cells) := by
  rw [← flat_take]
  refine ⟨by rw [List.length_take, h.1]; omega, ?_⟩
  rcases h.2 with ⟨hv, h0⟩ | ⟨g, cp, cur, hv, h1, h2, h3, h4, h5, h6⟩
  · injection hv with e1 e2 e3
    subst e1 e3
    left
    have : k = 0 := by omega
    subst this
    exact ⟨rfl, rfl⟩
  · injection hv with e1 e2 e3
    subst e1 e3
    right
    refine ⟨g, cap, cur, rfl, h1, h2, by omega, h4, h5, ?_⟩
    rw [← h6, List.take_take, show min (k * 4) (n * 4) = k * 4 by omega]
/-- a log that keeps its first entries -/
theorem log_cut {w w3 : World} {base N n cap : Nat} {ix tm : Int} {c : Cf} {es : List En} {ae : Option Addr} (h : LogAt w base N ix tm c es ae n cap) (hb : Below w.heap.size w w3) (k : Nat) (hk : k ≤ n) :
    LogAt (w3.setCell ⟨N, 4, none⟩ (.slice ae k cap)) base N ix tm c (es.take k) ae k cap ∧ NStep w (w3.setCell ⟨N, 4, none⟩ (.slice ae k cap)) N ae ae := by
  have hNl := lt_of_block h.cell
  have h3 := h.below hb
  have ht : Touch [N] w3 (w3.setCell ⟨N, 4, none⟩ (.slice ae k cap)) := touch_set (Touch.refl _ _) _ _ _ (by simp)
  have kk : ∀ {b : Nat} {e : TypeId} {sz : Nat} {v : Value} {q : Nat} {xs : List Value}, w3.ownsRow b e sz v q xs → 67 ≠ e → (w3.setCell ⟨N, 4, none⟩ (.slice ae k cap)).ownsRow b e sz v q xs := fun hr he =>
    own_keep hr fun g hg hgl => ht.block g hgl (fun hmm => own_ne hr h3.cell he (by simp at hmm; rw [← hmm]; exact hg))
  refine ⟨⟨h.lo, set_block (i := 4) h3.cell _, kk h3.vo (by decide), kk h3.le (by decide), ?_, kk (own_cut h3.row k hk) (by decide), fun e he => kk (h3.own e (List.mem_of_mem_take he)) (by decide)⟩,
    ⟨ht.os.trans hb.os, ht.tape.trans hb.tape, ht.output.trans hb.output, Nat.le_trans hb.size ht.size, fun j hj hn _ => (ht.block j (Nat.lt_of_lt_of_le hj hb.size) (by simpa using hn)).trans (hb.block j hj), fun g hg => .inl hg⟩⟩
  rw [List.length_take, h.len]
  omega

set_option maxRecDepth 100000 in
set_option maxHeartbeats 6400000 in
theorem cutFrom_any (base N : Nat) (ix tm : Int) (c : Cf) (es : List En) (ae : Option Addr) (n cap : Nat) (i : Int) (w : World) (h : LogAt w base N ix tm c es ae n cap) (hrx : 0 ≤ ix ∧ ix ≤ 1099511627776) (hi : i ≤ 9223372036854775807) (hn : n ≤ 2000000000000) (hix : ix < i) :
    Calls Try.prog 25 #[.pointer (some ⟨N, 0, none⟩), .int .i64 i] w fun e w' => e = .returned (.int .i64 0) ∧
      LogAt w' base N ix tm c (es.take (i - ix - 1).toNat) ae (min (i - ix - 1).toNat n) cap ∧ NStep w w' N ae ae := by
  obtain ⟨⟨c0, c1, c2, c3, c4⟩, f0, f1, f2, f3, f4⟩ := five_cells h.cell
  obtain ⟨k, hk⟩ : ∃ k, k = min (i - ix - 1).toNat n := ⟨_, rfl⟩
  have hkn : k ≤ n := by omega
  have hes : es.take (i - ix - 1).toNat = es.take k := by
    rw [hk]
    by_cases hc : (i - ix - 1).toNat ≤ n
    · rw [Nat.min_eq_left hc]
    · rw [Nat.min_eq_right (by omega), List.take_of_length_le (by rw [h.len]; omega), List.take_of_length_le (by rw [h.len]; omega)]
  have hmin : min (i - ix - 1) (n : Int) = (k : Int) := by omega
  rw [← hk, hes]
  have hw1 : IntKind.i64.wrap (i - ix) = i - ix := by rw [IntKind.wrap_i64] <;> omega
  have hw2 : IntKind.i64.wrap (i - ix - 1) = i - ix - 1 := by rw [IntKind.wrap_i64] <;> omega
  have hw3 : IntKind.i64.wrap (n : Int) = (n : Int) := by rw [IntKind.wrap_i64] <;> omega
  have hcap := own_cap h.row
  have hk0 : (0 : Int) ≤ (k : Int) := by omega
  have hkc : (k : Int) ≤ (cap : Int) := by omega
  have hle : ¬ i ≤ ix := by omega
  have hke : (if (n : Int) < i - ix - 1 then (n : Int) else i - ix - 1).toNat = k := by split <;> omega
  have H := Lib.hid h
  have HKE := Lib.hid hke
  clear h hk hes hke
  go_enter Try.func25, Try.ntmps25
  go_wp2_with fail
  go_region
  rw [HKE.out]
  have hl := log_cut H.out (Below.refl _ _) k hkn
  obtain ⟨Z, hZ⟩ : ∃ Z, Z = w.setCell ⟨N, 4, none⟩ (.slice ae k cap) := ⟨_, rfl⟩
  rw [← hZ] at hl ⊢
  have HL := Lib.hid hl
  clear hl hZ
  go_wp2_with fail
  all_goals go_ret
  all_goals exact ⟨rfl, HL.out.1.below (Below.refl _ _).drew, HL.out.2.trans (NStep.of_below (Below.refl _ _).drew)⟩

set_option maxRecDepth 100000 in
set_option maxHeartbeats 3200000 in
theorem cutFrom_no (base N : Nat) (ix tm : Int) (c : Cf) (es : List En) (ae : Option Addr) (n cap : Nat) (i : Int) (w : World) (h : LogAt w base N ix tm c es ae n cap) (hix : i ≤ ix) :
    Calls Try.prog 25 #[.pointer (some ⟨N, 0, none⟩), .int .i64 i] w (RetBox w (.int .i64 1)) := by
  obtain ⟨⟨c0, c1, c2, c3, c4⟩, f0, f1, f2, f3, f4⟩ := five_cells h.cell
  clear h
  go_enter Try.func25, Try.ntmps25
  go_wp2_with fail
  go_ret
  exact ⟨rfl, Below.refl _ _⟩

set_option maxRecDepth 100000 in
set_option maxHeartbeats 3200000 in
theorem dropTo_no (base N : Nat) (ix tm : Int) (c : Cf) (es : List En) (ae : Option Addr) (n cap : Nat) (i : Int) (w : World) (h : LogAt w base N ix tm c es ae n cap) (hs : Sound ix tm es) (hn : n ≤ 2000000000000) (hok : (termOf ix tm es i).2 = false) :
    Calls Try.prog 12 #[.pointer (some ⟨N, 0, none⟩), .int .i64 i] w (RetBox w (.int .i64 1)) := by
  have ht := term_any base N ix tm c es ae n cap i w h hs hn
  obtain ⟨t, ht0⟩ : ∃ t, t = termOf ix tm es i := ⟨_, rfl⟩
  rw [← ht0] at ht hok
  obtain ⟨tt, tb⟩ := t
  simp only at hok
  subst hok
  simp only at ht
  have HT := Lib.hid ht
  clear ht h hs ht0
  go_enter Try.func12, Try.ntmps12
  go_wp2_with fail
  refine HT.out.mono ?_
  rintro e w1 ⟨rfl, hb1⟩
  go_wp2_with fail
  go_ret
  exact ⟨rfl, hb1⟩
end Go.Proofs.Ytpaommkjafdghaa
