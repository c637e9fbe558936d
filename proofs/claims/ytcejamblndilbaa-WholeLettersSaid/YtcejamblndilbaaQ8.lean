/- The document's right messages: the tests, and that they say the same. -/
import Derived.Test.YtcejamblndilbaaQ3
import Derived.Test.YtcejamblndilbaaRr
namespace Go.Proofs.Ytcejamblndilbaa
open Go.RowKit

def dEnts (top ix0 : Int) : Nat → Int → List En → Prop
  | _, _, [] => True
  | i, t, e :: r => r06 e.ix e.tm e.kd e.s.len = true ∧ e.ix = ix0 + (i : Nat) + 1 ∧ t ≤ e.tm ∧ e.tm ≤ top ∧ dEnts top ix0 (i + 1) e.tm r
theorem dEnts_m {top ix0 : Int} (h0 : 0 ≤ ix0 ∧ ix0 ≤ 1099511627776) (htop : top ≤ 1099511627776) : ∀ (es : List En) (k : Nat) (t : Int), 0 ≤ t → ix0 + (k : Nat) ≤ 1099511627776 → (mEnts top (ix0 + (k : Nat)) t es = true ↔ dEnts top ix0 k t es)
  | [], _, _, _, _ => by simp [mEnts, dEnts]
  | e :: r, k, t, ht, hk => by
    have hw : wrap64 (ix0 + (k : Nat) + 1) = ix0 + (k : Nat) + 1 := by unfold wrap64; omega
    rw [mEnts, dEnts, hw]
    constructor
    · intro h
      split at h
      · cases h
      · rename_i hn
        have hix : e.ix = ix0 + (k : Nat) + 1 := by omega
        have ih := dEnts_m h0 htop r (k + 1) e.tm (by omega) (by omega)
        rw [show ix0 + ((k + 1 : Nat) : Int) = e.ix from by omega] at ih
        exact ⟨by simp [r06]; omega, hix, by omega, by omega, ih.1 h⟩
    · rintro ⟨h1, h2, h3, h4, h5⟩
      simp [r06] at h1
      rw [if_neg (by omega)]
      have ih := dEnts_m h0 htop r (k + 1) e.tm (by omega) (by omega)
      rw [show ix0 + ((k + 1 : Nat) : Int) = e.ix from by omega] at ih
      exact ih.2 h5

/-- the document's tests -/
structure DocR (m : Ms) : Prop where
  k : 1 ≤ m.kind ∧ m.kind ≤ 8
  f : 1 ≤ m.fr ∧ m.fr ≤ 7
  t : 1 ≤ m.to ∧ m.to ≤ 7
  ne : m.fr ≠ m.to
  term : 1 ≤ m.term ∧ m.term ≤ 1099511627776
  same : sameM m (onlyOf m) = true
  ix : 0 ≤ m.index ∧ m.index ≤ 1099511627776
  lt : 0 ≤ m.logTerm ∧ m.logTerm ≤ 1099511627776
  cm : 0 ≤ m.commit ∧ m.commit ≤ 1099511627776
  off : 0 ≤ m.off ∧ m.off ≤ 32768
  dl : m.d.len ≤ 64
  en : m.en ≤ 8
  i7 : 7 ≤ m.kind → 1 ≤ m.index
  c7 : m.kind = 7 → confRight m.c.v.zs m.c.l.zs = true ∧ m.logTerm ≤ m.term
  ents : dEnts m.term m.index 0 m.logTerm m.es

theorem es_nil {w : World} {m : Ms} (h : MsOk w m) : m.es.map En.says = [] ↔ m.en = 0 := by
  rw [List.map_eq_nil_iff, ← h.len, List.length_eq_zero_iff]
theorem d_nil {w : World} {m : Ms} (h : MsOk w m) : m.d.bs = [] ↔ m.d.len = 0 := by
  have : m.d.bs.length = m.d.len := h.data.1.1
  rw [← this, List.length_eq_zero_iff]
theorem c_nil {w : World} {m : Ms} (h : MsOk w m) : (m.c.v.zs = [] ∧ m.c.l.zs = []) ↔ m.c.v.len + m.c.l.len = 0 := by
  have h3 : m.c.v.zs.length = m.c.v.len := by have := h.cv.1.1; rw [cellsZ_len] at this; omega
  have h4 : m.c.l.zs.length = m.c.l.len := by have := h.cl.1.1; rw [cellsZ_len] at this; omega
  rw [← h3, ← h4]
  constructor
  · rintro ⟨a, b⟩; simp [a, b]
  · intro a; exact ⟨List.length_eq_zero_iff.1 (by omega), List.length_eq_zero_iff.1 (by omega)⟩

theorem right_doc {w : World} {m : Ms} (hm : MsOk w m) : rightM m = true ↔ DocR m := by
  have he := es_nil hm
  have hd := d_nil hm
  have hc := c_nil hm
  have hl := hm.len
  constructor
  · intro h
    obtain ⟨hk, hf, ht, hterm, hix, hlt, hcm, hen, hes, hoff, hdl⟩ := right_facts h
    have hme : m.en ≠ 0 → dEnts m.term m.index 0 m.logTerm m.es := fun h0 => (dEnts_m hix hterm.2 m.es 0 m.logTerm hlt.1 (by omega)).1 (by simpa using hes h0)
    have hents : dEnts m.term m.index 0 m.logTerm m.es := by
      by_cases h0 : m.en = 0
      · have : m.es = [] := List.length_eq_zero_iff.1 (by omega)
        rw [this]; trivial
      · exact hme h0
    simp only [rightM, headOk, partsOk, Bool.and_eq_true, decide_eq_true_eq, Bool.or_eq_true] at h
    obtain ⟨⟨_, _, _, _, _, hne, _⟩, ⟨i1, i2, i3, i4, i5, i6, i7, i8, i9⟩, h77⟩ := h
    have hkk : m.kind = 1 ∨ m.kind = 2 ∨ m.kind = 3 ∨ m.kind = 4 ∨ m.kind = 5 ∨ m.kind = 6 ∨ m.kind = 7 ∨ m.kind = 8 := by omega
    refine ⟨hk, hf, ht, hne, hterm, ?_, hix, hlt, hcm, hoff, hdl, hen, ?_, ?_, hents⟩
    · rcases hkk with k | k | k | k | k | k | k | k <;> simp [namesOf, k, part3, numberOf] at i1 i2 i3 i4 i5 i6 i7 i8 i9 <;> simp [sameM, onlyOf, bareOf, k] <;> simp_all
    · intro h7
      rcases hkk with k | k | k | k | k | k | k | k <;> simp [namesOf, k, part3, numberOf] at i1 <;> omega
    · intro h7
      simp [namesOf, h7, part3] at i9
      exact ⟨i9, by omega⟩
  · intro h
    obtain ⟨hk, hf, ht, hne, hterm, hsame, hix, hlt, hcm, hoff, hdl, hen, h7, h77, hents⟩ := h
    have hme : mEnts m.term m.index m.logTerm m.es = true := by
      have := (dEnts_m hix hterm.2 m.es 0 m.logTerm hlt.1 (by omega)).2 hents
      simpa using this
    have hkk : m.kind = 1 ∨ m.kind = 2 ∨ m.kind = 3 ∨ m.kind = 4 ∨ m.kind = 5 ∨ m.kind = 6 ∨ m.kind = 7 ∨ m.kind = 8 := by omega
    simp only [rightM, headOk, partsOk, Bool.and_eq_true, decide_eq_true_eq, Bool.or_eq_true]
    refine ⟨⟨?_, hf.1, hf.2, ht.1, ht.2, hne, by simp [numberOf]; omega⟩, ?_, ?_⟩
    · rcases hkk with k | k | k | k | k | k | k | k <;> simp [namesOf, k]
    · rcases hkk with k | k | k | k | k | k | k | k <;> simp [sameM, onlyOf, bareOf, k] at hsame <;> simp [namesOf, k, part3, numberOf] <;> simp_all
    · by_cases k7 : m.kind = 7
      · exact .inr (h77 k7).2
      · exact .inl k7
end Go.Proofs.Ytcejamblndilbaa
