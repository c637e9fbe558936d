/- A message's entries: are they right? -/
import Derived.Test.YtcejamblndilbaaMsg1
namespace Go.Proofs.Ytcejamblndilbaa
open Go.RowKit

theorem drop_en {us : List En} {k : Nat} {e : En} (h : us[k]? = some e) : us.drop k = e :: us.drop (k + 1) := by
  obtain ⟨hl, h2⟩ := List.getElem?_eq_some_iff.1 h
  rw [List.drop_eq_getElem_cons hl, h2]
theorem four_cells {w : World} {B : Nat} {T : TypeId} {c0 c1 c2 c3 : Value} (h : w.heap[B]? = some (.cells #[c0, c1, c2, c3] T (0, 0))) :
    (w.cell? ⟨B, 0, none⟩ = some c0 ∧ w.cell? ⟨B, 1, none⟩ = some c1 ∧ w.cell? ⟨B, 2, none⟩ = some c2 ∧ w.cell? ⟨B, 3, none⟩ = some c3) ∧
    (w.frozen? ⟨B, 0, none⟩ = false ∧ w.frozen? ⟨B, 1, none⟩ = false ∧ w.frozen? ⟨B, 2, none⟩ = false ∧ w.frozen? ⟨B, 3, none⟩ = false) := by
  refine ⟨⟨?_, ?_, ?_, ?_⟩, ?_, ?_, ?_, ?_⟩ <;> simp [World.cell?, World.frozen?, h]

set_option maxRecDepth 100000 in
set_option maxHeartbeats 6400000 in
theorem mentries_any (m : Ms) (w : World) (h : MsOk w m) :
    Calls Try.prog 37 #[.agg m.cs] w (RetBox w (.bool (mEnts m.term m.index m.logTerm m.es && decide (m.en ≤ 8)))) := by
  obtain ⟨X, hX⟩ : ∃ X, X = w.alloc (.cells m.cs 28) := ⟨_, rfl⟩
  have hXb : Below w.heap.size w X := hX ▸ below_alloc (Below.refl _ _) _
  have hXs : X.heap.size = w.heap.size + 1 := by rw [hX, World.size_alloc]
  have hXc : X.heap[w.heap.size]? = some (.cells m.cs 28 (0, 0)) := hX ▸ heap_alloc_new w _
  have hbx : ∀ Z, Below X.heap.size X Z → Z.heap[w.heap.size]? = some (.cells m.cs 28 (0, 0)) := fun Z hZ => (hZ.block _ (by omega)).trans hXc
  have hX2 := h.below hXb
  have hen : m.en ≤ 9223372036854775807 := by have := h.ecap; simp only [maxLen] at this; omega
  have hell : ∀ e ∈ m.es, e.s.len ≤ 9223372036854775807 := fun e he => by have := (h.ents e he).2; simp only [maxLen] at this; omega
  obtain ⟨val, hval⟩ : ∃ val, val = mEnts m.term m.index m.logTerm m.es := ⟨_, rfl⟩
  rw [← hval]
  have HV := Lib.hid hval
  have HXB := Lib.hid hXb
  have HBX := Lib.hid hbx
  have HM := Lib.hid hX2
  have HL := Lib.hid h.len
  have HEL := Lib.hid hell
  obtain ⟨kind, fr, to, term, index, logTerm, commit, ok, ea, en, ecap, es, off, d, last, c⟩ := m
  simp only [Ms.cs] at hX HV HL HEL hen ⊢
  have HX := Lib.hid hX
  clear h hX2 hval hXb hbx hXc hXs hell hX
  go_enter Try.func37, Try.ntmps37
  go_wp2_with fail
  go_quiet (fail)
  go_wp2_with fail
  rw [← HX.out]
  go_loopw [3, 4, 14] (fun vi vt i wr => ∃ (k : Nat) (pi pt : Int), i = .int .i64 k ∧ vi = .int .i64 pi ∧ vt = .int .i64 pt ∧ k ≤ en ∧ Hid (val = mEnts term pi pt (es.drop k)) ∧ Hid (Below X.heap.size X wr)) (fun _ _ i _ => en - (intOf i).toNat)
  case atStart => exact ⟨0, index, logTerm, rfl, rfl, rfl, by omega, HV.out, below_drewN (Below.refl _ _) _⟩
  case round =>
    obtain ⟨k, pi, pt, rfl, rfl, rfl, hk, HG, HB⟩ := hrel
    obtain ⟨b0, b1, b2, b3, b4, b5, b6, b7, b8, b9, b10, b11, b12, b13⟩ := ms_cells (HBX.out _ HB.out)
    simp only at b0 b1 b2 b3 b4 b5 b6 b7 b8 b9 b10 b11 b12 b13
    by_cases hlt : k < en
    · obtain ⟨e, hek⟩ : ∃ e, es[k]? = some e := ⟨_, List.getElem?_eq_getElem (by rw [HL.out]; exact hlt)⟩
      obtain ⟨b, off', rfl, e0, e1, e2, e3⟩ := en_at (HM.out.below HB.out).row HL.out k hlt e hek
      have hkn : (k : Int) < (en : Int) := by omega
      have hel := HEL.out e (List.mem_of_getElem? hek)
      have hg := HG.out
      rw [drop_en hek, mEnts] at hg
      have HG2 := Lib.hid hg
      obtain ⟨Y, hY⟩ : ∃ Y, Y = wr.alloc (.cells #[.int .i64 e.ix, .int .i64 e.tm, .int .i64 e.kd, .slice e.s.a e.s.len e.s.cap] 41) := ⟨_, rfl⟩
      have hbY : Below wr.heap.size wr Y := hY ▸ below_alloc (Below.refl _ _) _
      have hbXY := below_then HB.out hbY
      obtain ⟨⟨f0, f1, f2, f3⟩, _⟩ := four_cells (show Y.heap[wr.heap.size]? = some (.cells #[.int .i64 e.ix, .int .i64 e.tm, .int .i64 e.kd, .slice e.s.a e.s.len e.s.cap] 41 (0, 0)) from hY ▸ heap_alloc_new wr _)
      clear b0 b1 b2 b3 b4 b5 b6 b7 b8 b9 b10 b11 b12 b13
      have hmc := ms_cells (HBX.out _ hbXY)
      obtain ⟨b0, b1, b2, b3, b4, b5, b6, b7, b8, b9, b10, b11, b12, b13⟩ := ms_cells (HBX.out _ HB.out)
      obtain ⟨c0, c1, c2, c3, c4, c5, c6, c7, c8, c9, c10, c11, c12, c13⟩ := hmc
      simp only at b0 b1 b2 b3 b4 b5 b6 b7 b8 b9 b10 b11 b12 b13 c0 c1 c2 c3 c4 c5 c6 c7 c8 c9 c10 c11 c12 c13
      have HY := Lib.hid hY
      have HBY := Lib.hid hbXY
      rw [hY] at c3 f0 f1 f2 f3
      obtain ⟨ww, hww⟩ : ∃ ww, ww = wrap64 (pi + 1) := ⟨_, rfl⟩
      rw [← hww] at HG2
      clear hg hY hbY hbXY hek c0 c1 c2 c4 c5 c6 c7 c8 c9 c10 c11 c12 c13
      by_cases h1 : e.ix ≠ ww
      · have hv : val = false := by rw [HG2.out, if_pos (.inl h1)]
        subst hv
        have hne : (e.ix != wrap64 (pi + 1)) = true := by rw [← hww]; simp [h1]
        clear h1 hww HG2
        go_wp2_with fail
        go_ret
        exact ⟨rfl, below_then HXB.out (HY.out ▸ HBY.out)⟩
      have hne : (e.ix != wrap64 (pi + 1)) = false := by rw [← hww]; simpa using h1
      by_cases h2 : 1099511627776 < e.ix
      · have hv : val = false := by rw [HG2.out, if_pos (.inr (.inl h2))]
        subst hv
        clear HG2
        go_wp2_with fail
        go_ret
        exact ⟨rfl, below_then HXB.out (HY.out ▸ HBY.out)⟩
      by_cases h3 : e.tm < pt
      · have hv : val = false := by rw [HG2.out, if_pos (.inr (.inr (.inl h3)))]
        subst hv
        clear HG2
        go_wp2_with fail
        go_ret
        exact ⟨rfl, below_then HXB.out (HY.out ▸ HBY.out)⟩
      by_cases h4 : term < e.tm
      · have hv : val = false := by rw [HG2.out, if_pos (.inr (.inr (.inr (.inl h4))))]
        subst hv
        clear HG2
        go_wp2_with fail
        go_ret
        exact ⟨rfl, below_then HXB.out (HY.out ▸ HBY.out)⟩
      by_cases h5 : e.kd < 0
      · have hv : val = false := by rw [HG2.out, if_pos (.inr (.inr (.inr (.inr (.inl h5)))))]
        subst hv
        clear HG2
        go_wp2_with fail
        go_ret
        exact ⟨rfl, below_then HXB.out (HY.out ▸ HBY.out)⟩
      by_cases h6 : 2 < e.kd
      · have hv : val = false := by rw [HG2.out, if_pos (.inr (.inr (.inr (.inr (.inr (.inl h6))))))]
        subst hv
        clear HG2
        go_wp2_with fail
        go_ret
        exact ⟨rfl, below_then HXB.out (HY.out ▸ HBY.out)⟩
      by_cases h7 : 2048 < e.s.len
      · have hv : val = false := by rw [HG2.out, if_pos (.inr (.inr (.inr (.inr (.inr (.inr (h7)))))))]
        subst hv
        have h7' : (2048 : Int) < (e.s.len : Int) := by omega
        clear HG2
        go_wp2_with fail
        go_ret
        exact ⟨rfl, below_then HXB.out (HY.out ▸ HBY.out)⟩
      have h7' : ¬ (2048 : Int) < (e.s.len : Int) := by omega
      have hv : val = mEnts term e.ix e.tm (es.drop (k + 1)) := by rw [HG2.out, if_neg (by intro h; rcases h with h | h | h | h | h | h | h; exact h1 h; exact h2 h; exact h3 h; exact h4 h; exact h5 h; exact h6 h; exact h7 h)]
      have HV2 := Lib.hid hv
      clear hv HG2 h1 hww
      go_wp2_with fail
      go_quiet (fail)
      go_wp2_with fail
      rw [← HY.out]
      go_roundw
      case rel => exact ⟨k + 1, e.ix, e.tm, by go_num, rfl, rfl, by omega, HV2.out, below_drewN HBY.out _⟩
      case measure => simp [intOf]; omega
    · have hke : k = en := by omega
      have hv : val = true := by rw [HG.out, List.drop_of_length_le (by rw [HL.out]; omega)]; rfl
      subst hv
      have HE := Lib.hid hke
      clear hke
      go_wp2_with fail
      go_ret
      refine ⟨?_, below_then HXB.out HB.out⟩
      rw [Bool.true_and]
      show Ending.returned (.bool (decide ((en : Int) ≤ 8))) = _
      rw [show decide ((en : Int) ≤ 8) = decide (en ≤ 8) from by rw [decide_eq_decide]; omega]
end Go.Proofs.Ytcejamblndilbaa
