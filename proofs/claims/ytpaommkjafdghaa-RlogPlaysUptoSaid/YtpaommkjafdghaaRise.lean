/- Terms never fall. -/
import Derived.Test.YtpaommkjafdghaaApart
namespace Go.Proofs.Ytpaommkjafdghaa
open Go.RowKit

/-- terms from t on never fall -/
def Rise : Int → List En → Prop
  | _, [] => True
  | t, e :: r => t ≤ e.tm ∧ Rise e.tm r
/-- the term behind k entries -/
def tAt (tm : Int) (es : List En) : Nat → Int
  | 0 => tm
  | k + 1 => (es[k]?.map En.tm).getD 0
theorem tAt_cons (tm : Int) (e : En) (r : List En) (k : Nat) : tAt tm (e :: r) (k + 1) = tAt e.tm r k := by
  cases k with
  | zero => rfl
  | succ k => rfl
theorem tAt_succ {tm : Int} {es : List En} {k : Nat} {e : En} (h : es[k]? = some e) : tAt tm es (k + 1) = e.tm := by
  rw [tAt, h]
  rfl
theorem Rise.at : ∀ {es : List En} {tm : Int} {k : Nat} {e : En}, Rise tm es → es[k]? = some e → tAt tm es k ≤ e.tm
  | [], _, _, _, _, h => by simp at h
  | a :: r, tm, 0, e, hr, h => by
    simp only [List.getElem?_cons_zero, Option.some.injEq] at h
    subst h
    exact hr.1
  | a :: r, tm, k + 1, e, hr, h => by
    rw [List.getElem?_cons_succ] at h
    rw [tAt_cons]
    exact Rise.at hr.2 h
theorem Rise.take : ∀ {es : List En} {tm : Int} (k : Nat), Rise tm es → Rise tm (es.take k)
  | [], _, k, _ => by rw [List.take_nil]; trivial
  | a :: r, tm, 0, _ => trivial
  | a :: r, tm, k + 1, h => by
    rw [List.take_succ_cons]
    exact ⟨h.1, Rise.take k h.2⟩
theorem Rise.drop : ∀ {es : List En} {tm : Int} (k : Nat), k ≤ es.length → Rise tm es → Rise (tAt tm es k) (es.drop k)
  | es, tm, 0, _, h => h
  | [], _, k + 1, hk, _ => by simp at hk
  | a :: r, tm, k + 1, hk, h => by
    rw [tAt_cons, List.drop_succ_cons]
    exact Rise.drop k (by simp at hk; exact hk) h.2
theorem Rise.append : ∀ {es us : List En} {tm : Int}, Rise tm es → Rise (tAt tm es es.length) us → Rise tm (es ++ us)
  | [], us, tm, _, h => h
  | a :: r, us, tm, h, h2 => by
    rw [List.length_cons, tAt_cons] at h2
    exact ⟨h.1, Rise.append h.2 h2⟩
theorem last_tm (ix tm : Int) (es : List En) : (lastOf ix tm es).2 = tAt tm es es.length := by
  unfold lastOf
  cases hl : es.length with
  | zero =>
    rw [List.length_eq_zero_iff] at hl
    subst hl
    rfl
  | succ m =>
    rw [List.getLast?_eq_getElem?, hl]
    obtain ⟨e, he⟩ : ∃ e, es[m]? = some e := ⟨_, List.getElem?_eq_getElem (by omega)⟩
    rw [show m + 1 - 1 = m from rfl, he, tAt_succ he]
theorem appendOf_rise : ∀ (us : List En) (i t : Int), appendOf i t us = 0 → Rise t us
  | [], _, _, _ => trivial
  | e :: r, i, t, h0 => by
    rw [appendOf] at h0
    split at h0
    · omega
    · split at h0
      · omega
      · split at h0
        · omega
        · exact ⟨by omega, appendOf_rise r _ _ h0⟩
theorem Rise.says : ∀ {es fs : List En} {tm : Int}, Rise tm es → fs.map En.says = es.map En.says → Rise tm fs
  | [], fs, tm, _, h => by
    rw [List.map_nil, List.map_eq_nil_iff] at h
    subst h
    trivial
  | e :: r, [], tm, _, h => by simp at h
  | e :: r, f :: s, tm, hr, h => by
    rw [says_cons] at h
    exact ⟨by rw [h.1.2.1]; exact hr.1, by rw [h.1.2.1]; exact Rise.says hr.2 h.2⟩
theorem Rise.more {ix tm : Int} {es us vs : List En} (h : Rise tm es) (h0 : appendOf (lastOf ix tm es).1 (lastOf ix tm es).2 us = 0) (hs : vs.map En.says = us.map En.says) : Rise tm (es ++ vs) :=
  h.append ((last_tm ix tm es ▸ appendOf_rise us _ _ h0).says hs)
theorem term_tAt {ix tm : Int} {es : List En} (to : Int) (h0 : ix ≤ to) (h1 : to ≤ ix + es.length) : (termOf ix tm es to).1 = tAt tm es (to - ix).toNat := by
  unfold termOf
  rw [if_neg (by omega)]
  by_cases h : to = ix
  · subst h
    rw [if_pos rfl, show (to - to).toNat = 0 from by omega]
    rfl
  · rw [if_neg h, show (to - ix).toNat = (to - ix - 1).toNat + 1 from by omega]
    rfl
theorem has_at {ix tm : Int} {es : List En} (hs : Sound ix tm es) {k : Nat} {e : En} (he : es[k]? = some e) : hasOf ix tm es e.ix e.tm = true := by
  have hi := hs.idx k e he
  have hk : k < es.length := (List.getElem?_eq_some_iff.1 he).1
  unfold hasOf
  rw [term_in e.ix (by omega) (by omega), term_tAt e.ix (by omega) (by omega), show (e.ix - ix).toNat = k + 1 from by omega, tAt_succ he]
  simp
theorem Sound.take {ix tm : Int} {es : List En} (h : Sound ix tm es) (k : Nat) : Sound ix tm (es.take k) :=
  ⟨h.rx, h.rt, fun j e he => by
    rw [List.getElem?_take] at he
    split at he
    · exact h.idx j e he
    · cases he⟩
theorem AllR.take {es : List En} (h : AllR es) (k : Nat) : AllR (es.take k) := fun e he => h e (List.mem_of_mem_take he)
theorem entries_all {ix : Int} {es : List En} (hx : 0 ≤ ix) (most : Nat) (hm : 0 < most) : entriesOf ix es 0 most = es.take most := by
  unfold entriesOf
  simp only
  rw [show max 0 (ix + 1) = ix + 1 from by omega, show ix + 1 - ix - 1 = 0 from by omega]
  by_cases hc : es = []
  · subst hc
    simp
  · have : 0 < es.length := List.length_pos_iff.2 hc
    rw [if_neg (by intro h; rcases h with h | h | h; exact hc h; all_goals omega)]
    simp
end Go.Proofs.Ytpaommkjafdghaa
