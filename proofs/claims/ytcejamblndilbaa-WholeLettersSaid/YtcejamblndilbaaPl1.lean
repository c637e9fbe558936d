/- Messages, plain: which are right; what is read is small. -/
import Derived.Test.YtcejamblndilbaaPm
namespace Go.Proofs.Ytcejamblndilbaa
open Go.RowKit

def mEntsP (top : Int) : Int → Int → List Pe → Bool
  | _, _, [] => true
  | i, t, e :: r => if e.ix ≠ wrap64 (i + 1) ∨ 1099511627776 < e.ix ∨ e.tm < t ∨ top < e.tm ∨ e.kd < 0 ∨ 2 < e.kd ∨ 2048 < e.bs.length then false else mEntsP top e.ix e.tm r
def partsP (p : Pt) (x : Pm) : Bool :=
  part3 p.index (x.index == 0) (numberOf x.index (if p.off then 1 else 0)) && (part3 p.logTerm (x.logTerm == 0) (numberOf x.logTerm 0) && (part3 p.commit (x.commit == 0) (numberOf x.commit 0) &&
  (part3 p.ok (!x.ok) true && (part3 p.entries (decide (x.es.length = 0)) (mEntsP x.term x.index x.logTerm x.es && decide (x.es.length ≤ 8)) && (part3 p.off (x.off == 0) (decide (0 ≤ x.off) && decide (x.off ≤ 32768)) &&
  (part3 p.data (decide (x.d.length = 0)) (decide (x.d.length ≤ 64)) && (part3 p.last (!x.last) true && part3 p.conf (decide (x.v.length + x.l.length = 0)) (confRight x.v x.l))))))))
/-- is a message right? -/
def rightP (x : Pm) : Bool := ((namesOf x.kind).2 && (decide (1 ≤ x.fr) && (decide (x.fr ≤ 7) && (decide (1 ≤ x.dst) && (decide (x.dst ≤ 7) && (decide (x.fr ≠ x.dst) && numberOf x.term 1)))))) &&
  (partsP (namesOf x.kind).1 x && (decide (x.kind ≠ 7) || decide (x.logTerm ≤ x.term)))
theorem mEnts_plain {top : Int} : ∀ (es : List En) (i t : Int), (∀ e ∈ es, e.s.bs.length = e.s.len) → mEnts top i t es = mEntsP top i t (es.map En.plain)
  | [], _, _, _ => rfl
  | e :: r, i, t, h => by
    have h1 := h e (List.mem_cons_self ..)
    rw [mEnts, List.map_cons, mEntsP, mEnts_plain r e.ix e.tm fun x hx => h x (List.mem_cons_of_mem _ hx)]
    simp only [En.plain, h1]
theorem rightM_plain {w : World} {m : Ms} (h : MsOk w m) : rightM m = rightP m.plain := by
  have h1 : m.plain.es.length = m.en := by show (m.es.map En.plain).length = _; rw [List.length_map, h.len]
  have h2 : m.plain.d.length = m.d.len := h.data.1.1
  have h3 : m.plain.v.length = m.c.v.len := by have := h.cv.1.1; rw [cellsZ_len] at this; show m.c.v.zs.length = _; omega
  have h4 : m.plain.l.length = m.c.l.len := by have := h.cl.1.1; rw [cellsZ_len] at this; show m.c.l.zs.length = _; omega
  have h5 := mEnts_plain (top := m.term) m.es m.index m.logTerm fun e he => (h.ents e he).1.1
  unfold rightM rightP headOk partsOk partsP
  rw [h1, h2, h3, h4, h5]
  rfl

theorem loadOf_right {b : List UInt8} {v l : List Int} (h : loadOf b = some (v, l)) : confRight v l = true := by
  have hfin : ∀ {a c : List Int} {r : List UInt8} {q : (List Int × List Int) × List UInt8}, readFin a c r = some q → confRight q.1.1 q.1.2 = true := by
    intro a c r q hq
    unfold readFin at hq
    split at hq
    · rename_i hc
      injection hq with hq
      rw [← hq]; exact hc
    · cases hq
  unfold loadOf at h
  split at h
  · rename_i c hc
    injection h with h
    subst h
    unfold readConf readStage at hc
    simp only at hc
    split at hc
    · cases hc
    · split at hc
      · cases hc
      · have := hfin hc
        exact this
  · cases h
def SmallC (x : Pm) : Prop := x.v.length ≤ 7 ∧ x.l.length ≤ 7
theorem stConf_small {x y : Pm} {r r' : List UInt8} (hx : SmallC x) (h : stConf x r = some (y, r')) : SmallC y := by
  unfold stConf at h
  split at h
  · split at h
    · cases h
    · split at h
      · cases h
      · rename_i v l hl
        injection h with h
        injection h with h _
        subst h
        obtain ⟨h1, h2, _⟩ := confRight_facts (loadOf_right hl)
        exact ⟨(rising_len h1).1, (rising_len h2).1⟩
  · injection h with h
    injection h with h _
    exact h ▸ hx
theorem stLast_small {x y : Pm} {r r' : List UInt8} (hx : SmallC x) (h : stLast x r = some (y, r')) : SmallC y := by
  unfold stLast at h
  split at h
  · split at h
    · cases h
    · refine stConf_small ?_ h
      exact hx
  · exact stConf_small hx h
theorem stData_small {x y : Pm} {r r' : List UInt8} (hx : SmallC x) (h : stData x r = some (y, r')) : SmallC y := by
  unfold stData at h
  split at h
  · split at h
    · cases h
    · refine stLast_small ?_ h
      exact hx
  · exact stLast_small hx h
theorem stOff_small {x y : Pm} {r r' : List UInt8} (hx : SmallC x) (h : stOff x r = some (y, r')) : SmallC y := by
  unfold stOff at h
  split at h
  · split at h
    · cases h
    · refine stData_small ?_ h
      exact hx
  · exact stData_small hx h
theorem stEs_small : ∀ (j : Nat) {x y : Pm} {r r' : List UInt8}, SmallC x → stEs j x r = some (y, r') → SmallC y
  | 0, _, _, _, _, hx, h => stOff_small hx h
  | j + 1, x, y, r, r', hx, h => by
    unfold stEs at h
    split at h
    · cases h
    · split at h
      · cases h
      · split at h
        · cases h
        · refine stEs_small j ?_ h
          exact hx
theorem stEnts_small {x y : Pm} {r r' : List UInt8} (hx : SmallC x) (h : stEnts x r = some (y, r')) : SmallC y := by
  unfold stEnts at h
  split at h
  · split at h
    · cases h
    · exact stEs_small _ hx h
  · exact stOff_small hx h
theorem stOk_small {x y : Pm} {r r' : List UInt8} (hx : SmallC x) (h : stOk x r = some (y, r')) : SmallC y := by
  unfold stOk at h
  split at h
  · split at h
    · cases h
    · refine stEnts_small ?_ h
      exact hx
  · exact stEnts_small hx h
theorem setN_small {x : Pm} (k : Nat) (n : Int) (hx : SmallC x) : SmallC (x.setN k n) := by
  unfold Pm.setN
  split <;> exact hx
theorem stNum_small : ∀ (j : Nat) {x y : Pm} {r r' : List UInt8}, SmallC x → stNum j x r = some (y, r') → SmallC y
  | 0, _, _, _, _, hx, h => stOk_small hx h
  | j + 1, x, y, r, r', hx, h => by
    unfold stNum at h
    split at h
    · split at h
      · cases h
      · exact stNum_small j (setN_small _ _ hx) h
    · exact stNum_small j hx h
theorem readP_small {x : Pm} {bs r : List UInt8} (h : readP bs = some (x, r)) : SmallC x := by
  unfold readP at h
  split at h
  · cases h
  · split at h
    · cases h
    · split at h
      · cases h
      · split at h
        · cases h
        · exact stNum_small 3 ⟨by simp, by simp⟩ h
end Go.Proofs.Ytcejamblndilbaa
