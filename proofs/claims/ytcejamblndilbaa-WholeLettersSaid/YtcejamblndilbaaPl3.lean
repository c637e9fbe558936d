/- Messages, plain: what is read are its bytes; frames. -/
import Derived.Test.YtcejamblndilbaaPl2
namespace Go.Proofs.Ytcejamblndilbaa
open Go.RowKit

theorem bytes_getB {bs ys r : List UInt8} (h : getBytes bs = some (ys, r)) : bs = lenB ys ++ r ∧ ys.length ≤ 4096 := by
  obtain ⟨h1, h2⟩ := bytes_getBytes h
  exact ⟨by rw [h1, lenB, List.append_assoc], h2⟩
theorem flag_getF {bs r : List UInt8} {b : Bool} (h : getFlag bs = some (b, r)) : bs = flagB b ++ r := flag_getFlag h

theorem stConf_back {y x : Pm} {r r' : List UInt8} (h : stConf y r = some (x, r')) : r = ecConf x ++ r' ∧ ∃ v l, x = { y with v := v, l := l } := by
  unfold stConf at h
  split at h
  · rename_i hc
    split at h
    · cases h
    · rename_i b r1 hb
      split at h
      · cases h
      · rename_i v l hl
        injection h with h
        injection h with h h2
        subst h h2
        refine ⟨?_, v, l, rfl⟩
        have hp : Pm.p { y with v := v, l := l } = y.p := rfl
        rw [ecConf, ifB, hp, if_pos hc, ← cBytes_loadOf hl]
        exact (bytes_getB hb).1
  · rename_i hc
    injection h with h
    injection h with h h2
    subst h h2
    exact ⟨by rw [ecConf, ifB, if_neg hc, List.nil_append], y.v, y.l, rfl⟩
theorem stLast_back {y x : Pm} {r r' : List UInt8} (h : stLast y r = some (x, r')) : r = ecLast x ++ r' ∧ ∃ b v l, x = { y with last := b, v := v, l := l } := by
  unfold stLast at h
  split at h
  · rename_i hc
    split at h
    · cases h
    · rename_i b r1 hb
      obtain ⟨h1, v, l, rfl⟩ := stConf_back h
      refine ⟨?_, b, v, l, rfl⟩
      have hp : Pm.p { y with last := b, v := v, l := l } = y.p := rfl
      rw [ecLast, ifB, hp, if_pos hc, flag_getF hb, h1, List.append_assoc]
  · rename_i hc
    obtain ⟨h1, v, l, rfl⟩ := stConf_back h
    refine ⟨?_, y.last, v, l, rfl⟩
    have hp : Pm.p { y with v := v, l := l } = y.p := rfl
    rw [ecLast, ifB, hp, if_neg hc, List.nil_append, h1]
theorem stData_back {y x : Pm} {r r' : List UInt8} (h : stData y r = some (x, r')) : r = ecData x ++ r' ∧ ∃ d b v l, x = { y with d := d, last := b, v := v, l := l } := by
  unfold stData at h
  split at h
  · rename_i hc
    split at h
    · cases h
    · rename_i b r1 hb
      obtain ⟨h1, c, v, l, rfl⟩ := stLast_back h
      refine ⟨?_, b, c, v, l, rfl⟩
      have hp : Pm.p { y with d := b, last := c, v := v, l := l } = y.p := rfl
      rw [ecData, ifB, hp, if_pos hc, (bytes_getB hb).1, h1, List.append_assoc]
  · rename_i hc
    obtain ⟨h1, c, v, l, rfl⟩ := stLast_back h
    refine ⟨?_, y.d, c, v, l, rfl⟩
    have hp : Pm.p { y with last := c, v := v, l := l } = y.p := rfl
    rw [ecData, ifB, hp, if_neg hc, List.nil_append, h1]
theorem stOff_back {y x : Pm} {r r' : List UInt8} (h : stOff y r = some (x, r')) : r = ecOff x ++ r' ∧ ∃ o d b v l, x = { y with off := o, d := d, last := b, v := v, l := l } := by
  unfold stOff at h
  split at h
  · rename_i hc
    split at h
    · cases h
    · rename_i n r1 hb
      obtain ⟨h1, d, c, v, l, rfl⟩ := stData_back h
      refine ⟨?_, n, d, c, v, l, rfl⟩
      have hp : Pm.p { y with off := n, d := d, last := c, v := v, l := l } = y.p := rfl
      rw [ecOff, ifB, hp, if_pos hc, (num_getNum hb).1, h1, List.append_assoc]
  · rename_i hc
    obtain ⟨h1, d, c, v, l, rfl⟩ := stData_back h
    refine ⟨?_, y.off, d, c, v, l, rfl⟩
    have hp : Pm.p { y with d := d, last := c, v := v, l := l } = y.p := rfl
    rw [ecOff, ifB, hp, if_neg hc, List.nil_append, h1]
theorem stEs_back : ∀ (j : Nat) {y x : Pm} {r r' : List UInt8}, stEs j y r = some (x, r') →
    ∃ es2, es2.length = j ∧ r = es2.flatMap entB ++ (ecOff x ++ r') ∧ ∃ o d b v l, x = { y with es := y.es ++ es2, off := o, d := d, last := b, v := v, l := l }
  | 0, y, x, r, r', h => by
    rw [stEs] at h
    obtain ⟨h1, o, d, b, v, l, h2⟩ := stOff_back h
    refine ⟨[], rfl, by rw [List.flatMap_nil, List.nil_append, h1], o, d, b, v, l, ?_⟩
    rw [List.append_nil]; exact h2
  | j + 1, y, x, r, r', h => by
    rw [stEs] at h
    split at h
    · cases h
    · rename_i tm r1 h1
      split at h
      · cases h
      · rename_i kd r2 h2
        split at h
        · cases h
        · rename_i bs r3 h3
          obtain ⟨es2, e1, e2, o, d, b, v, l, e3⟩ := stEs_back j h
          refine ⟨⟨wrap64 (wrap64 (y.index + 1) + (y.es.length : Nat)), tm, kd, bs⟩ :: es2, by simp [e1], ?_, o, d, b, v, l, ?_⟩
          · rw [(num_getNum h1).1, (num_getCount h2).1, (bytes_getB h3).1, e2, List.flatMap_cons]
            simp [entB]
          · rw [e3]; simp
theorem stEnts_back {y x : Pm} {r r' : List UInt8} (hy : y.es = []) (h : stEnts y r = some (x, r')) : r = ecEnts x ++ r' ∧ ∃ es o d b v l, x = { y with es := es, off := o, d := d, last := b, v := v, l := l } := by
  unfold stEnts at h
  split at h
  · rename_i hc
    split at h
    · cases h
    · rename_i n r1 hb
      obtain ⟨es2, e1, e2, o, d, b, v, l, e3⟩ := stEs_back _ h
      rw [hy, List.nil_append] at e3
      obtain ⟨hn, hn2⟩ := num_getCount hb
      refine ⟨?_, es2, o, d, b, v, l, e3⟩
      have hx : x.es = es2 := by rw [e3]
      have hp : x.p = y.p := by rw [e3]; rfl
      have hl : ((es2.length : Nat) : Int) = n := by omega
      rw [ecEnts, ecEs, ifB, hp, if_pos hc, hx, hl, hn, e2]
      simp
  · rename_i hc
    obtain ⟨h1, o, d, b, v, l, rfl⟩ := stOff_back h
    refine ⟨?_, y.es, o, d, b, v, l, rfl⟩
    have hp : Pm.p { y with off := o, d := d, last := b, v := v, l := l } = y.p := rfl
    rw [ecEnts, ecEs, ifB, hp, if_neg hc]
    show r = [] ++ (y.es.flatMap entB ++ ecOff _) ++ r'
    rw [hy, h1]
    rfl
theorem stOk_back {y x : Pm} {r r' : List UInt8} (hy : y.es = []) (h : stOk y r = some (x, r')) : r = ecOk x ++ r' ∧ ∃ k es o d b v l, x = { y with ok := k, es := es, off := o, d := d, last := b, v := v, l := l } := by
  unfold stOk at h
  split at h
  · rename_i hc
    split at h
    · cases h
    · rename_i k r1 hb
      obtain ⟨h1, es, o, d, c, v, l, rfl⟩ := stEnts_back (y := { y with ok := k }) hy h
      refine ⟨?_, k, es, o, d, c, v, l, rfl⟩
      have hp : Pm.p { y with ok := k, es := es, off := o, d := d, last := c, v := v, l := l } = y.p := rfl
      rw [ecOk, ifB, hp, if_pos hc, flag_getF hb, h1, List.append_assoc]
  · rename_i hc
    obtain ⟨h1, es, o, d, c, v, l, rfl⟩ := stEnts_back hy h
    refine ⟨?_, y.ok, es, o, d, c, v, l, rfl⟩
    have hp : Pm.p { y with es := es, off := o, d := d, last := c, v := v, l := l } = y.p := rfl
    rw [ecOk, ifB, hp, if_neg hc, List.nil_append, h1]
theorem stNum1_back {y x : Pm} {r r' : List UInt8} (hy : y.es = []) (h : stNum 1 y r = some (x, r')) : r = ecNum3 x ++ r' ∧ ∃ c k es o d b v l, x = { y with commit := c, ok := k, es := es, off := o, d := d, last := b, v := v, l := l } := by
  unfold stNum at h
  split at h
  · rename_i hc
    have hc : y.p.commit = true := hc
    split at h
    · cases h
    · rename_i n r1 hb
      obtain ⟨h1, k, es, o, d, c, v, l, rfl⟩ := stOk_back (y := { y with commit := n }) hy h
      refine ⟨?_, n, k, es, o, d, c, v, l, rfl⟩
      have hp : Pm.p { y with commit := n, ok := k, es := es, off := o, d := d, last := c, v := v, l := l } = y.p := rfl
      show r = ecNum3 { y with commit := n, ok := k, es := es, off := o, d := d, last := c, v := v, l := l } ++ r'
      rw [ecNum3, ifB, hp, if_pos hc, (num_getNum hb).1, h1, List.append_assoc]
  · rename_i hc
    have hc : ¬ y.p.commit = true := hc
    obtain ⟨h1, k, es, o, d, c, v, l, rfl⟩ := stOk_back hy h
    refine ⟨?_, y.commit, k, es, o, d, c, v, l, rfl⟩
    have hp : Pm.p { y with ok := k, es := es, off := o, d := d, last := c, v := v, l := l } = y.p := rfl
    rw [ecNum3, ifB, hp, if_neg hc, List.nil_append, h1]
theorem stNum2_back {y x : Pm} {r r' : List UInt8} (hy : y.es = []) (h : stNum 2 y r = some (x, r')) : r = ecNum2 x ++ r' ∧ ∃ t c k es o d b v l, x = { y with logTerm := t, commit := c, ok := k, es := es, off := o, d := d, last := b, v := v, l := l } := by
  unfold stNum at h
  split at h
  · rename_i hc
    have hc : y.p.logTerm = true := hc
    split at h
    · cases h
    · rename_i n r1 hb
      obtain ⟨h1, t, k, es, o, d, c, v, l, rfl⟩ := stNum1_back (y := { y with logTerm := n }) hy h
      refine ⟨?_, n, t, k, es, o, d, c, v, l, rfl⟩
      have hp : Pm.p { y with logTerm := n, commit := t, ok := k, es := es, off := o, d := d, last := c, v := v, l := l } = y.p := rfl
      show r = ecNum2 { y with logTerm := n, commit := t, ok := k, es := es, off := o, d := d, last := c, v := v, l := l } ++ r'
      rw [ecNum2, ifB, hp, if_pos hc, (num_getNum hb).1, h1, List.append_assoc]
  · rename_i hc
    have hc : ¬ y.p.logTerm = true := hc
    obtain ⟨h1, t, k, es, o, d, c, v, l, rfl⟩ := stNum1_back hy h
    refine ⟨?_, y.logTerm, t, k, es, o, d, c, v, l, rfl⟩
    have hp : Pm.p { y with commit := t, ok := k, es := es, off := o, d := d, last := c, v := v, l := l } = y.p := rfl
    rw [ecNum2, ifB, hp, if_neg hc, List.nil_append, h1]
theorem stNum3_back {y x : Pm} {r r' : List UInt8} (hy : y.es = []) (h : stNum 3 y r = some (x, r')) : r = ecNum x ++ r' ∧ ∃ i t c k es o d b v l, x = { y with index := i, logTerm := t, commit := c, ok := k, es := es, off := o, d := d, last := b, v := v, l := l } := by
  unfold stNum at h
  split at h
  · rename_i hc
    have hc : y.p.index = true := hc
    split at h
    · cases h
    · rename_i n r1 hb
      obtain ⟨h1, t, u, k, es, o, d, c, v, l, rfl⟩ := stNum2_back (y := { y with index := n }) hy h
      refine ⟨?_, n, t, u, k, es, o, d, c, v, l, rfl⟩
      have hp : Pm.p { y with index := n, logTerm := t, commit := u, ok := k, es := es, off := o, d := d, last := c, v := v, l := l } = y.p := rfl
      show r = ecNum { y with index := n, logTerm := t, commit := u, ok := k, es := es, off := o, d := d, last := c, v := v, l := l } ++ r'
      rw [ecNum, ifB, hp, if_pos hc, (num_getNum hb).1, h1, List.append_assoc]
  · rename_i hc
    have hc : ¬ y.p.index = true := hc
    obtain ⟨h1, t, u, k, es, o, d, c, v, l, rfl⟩ := stNum2_back hy h
    refine ⟨?_, y.index, t, u, k, es, o, d, c, v, l, rfl⟩
    have hp : Pm.p { y with logTerm := t, commit := u, ok := k, es := es, off := o, d := d, last := c, v := v, l := l } = y.p := rfl
    rw [ecNum, ifB, hp, if_neg hc, List.nil_append, h1]
theorem readP_back {x : Pm} {bs r : List UInt8} (h : readP bs = some (x, r)) : bs = encP x ++ r := by
  unfold readP at h
  split at h
  · cases h
  · rename_i kind r1 h1
    split at h
    · cases h
    · rename_i fr r2 h2
      split at h
      · cases h
      · rename_i dst r3 h3
        split at h
        · cases h
        · rename_i term r4 h4
          obtain ⟨e, i, t, u, k, es, o, d, c, v, l, hx⟩ := stNum3_back (by rfl) h
          rw [(num_getCount h1).1, (num_getCount h2).1, (num_getCount h3).1, (num_getNum h4).1, e, encP, hx]
          simp

/-! right messages fit -/
theorem mEntsP_each {top : Int} : ∀ (es : List Pe) (i t : Int), 0 ≤ i → i ≤ 1099511627776 → mEntsP top i t es = true →
    (∀ e ∈ es, t ≤ e.tm ∧ e.tm ≤ top ∧ 0 ≤ e.kd ∧ e.kd ≤ 2 ∧ e.bs.length ≤ 2048) ∧ (∀ (j : Nat) (e : Pe), es[j]? = some e → e.ix = i + 1 + (j : Nat) ∧ e.ix ≤ 1099511627776)
  | [], _, _, _, _, _ => ⟨(fun e h => by cases h), (fun j e h => by simp at h)⟩
  | u :: r, i, t, h0, h1, h => by
    rw [mEntsP] at h
    split at h
    · cases h
    · rename_i hn
      have hw : wrap64 (i + 1) = i + 1 := by unfold wrap64; omega
      have hix : u.ix = i + 1 := by omega
      obtain ⟨a, b⟩ := mEntsP_each r u.ix u.tm (by omega) (by omega) h
      refine ⟨fun e he => ?_, fun j e he => ?_⟩
      · rcases List.mem_cons.1 he with rfl | he
        · exact ⟨by omega, by omega, by omega, by omega, by omega⟩
        · have := a e he
          exact ⟨by omega, this.2.1, this.2.2.1, this.2.2.2.1, this.2.2.2.2⟩
      · cases j with
        | zero => simp at he; subst he; exact ⟨by rw [hix]; simp, by omega⟩
        | succ j =>
          have := b j e (by simpa using he)
          exact ⟨by rw [this.1, hix]; omega, this.2⟩
theorem numb_part {nm : Bool} {x l : Int} (hl : 0 ≤ l) (h : part3 nm (x == 0) (numberOf x l) = true) : 0 ≤ x ∧ x ≤ 1099511627776 ∧ (nm = false → x = 0) := by
  simp only [part3, numberOf] at h
  cases nm
  · simp at h; exact ⟨by omega, by omega, fun _ => h⟩
  · simp at h; exact ⟨by omega, by omega, fun h2 => by cases h2⟩
theorem kind_range {k : Int} (h : (namesOf k).2 = true) : 1 ≤ k ∧ k ≤ 8 := by
  unfold namesOf at h
  by_cases k1 : k = 1 ∨ k = 3
  · omega
  by_cases k2 : k = 2 ∨ k = 4
  · omega
  by_cases k3 : k = 5
  · omega
  by_cases k4 : k = 6
  · omega
  by_cases k5 : k = 7
  · omega
  by_cases k6 : k = 8
  · omega
  rw [if_neg k1, if_neg k2, if_neg k3, if_neg k4, if_neg k5, if_neg k6] at h
  cases h
theorem fits_right {x : Pm} (h : rightP x = true) : Fits x := by
  unfold rightP partsP at h
  simp only [Bool.and_eq_true, decide_eq_true_eq] at h
  obtain ⟨⟨hk, h1, h2, h3, h4, _, h5⟩, ⟨i1, i2, i3, i4, i5, i6, i7, i8, i9⟩, _⟩ := h
  have hkk := kind_range hk
  have a1 := numb_part (by split <;> omega) i1
  have a2 := numb_part (by omega) i2
  have a3 := numb_part (by omega) i3
  have hterm : 1 ≤ x.term ∧ x.term ≤ 1099511627776 := by simpa [numberOf] using h5
  have hes : x.es = [] ∨ (mEntsP x.term x.index x.logTerm x.es = true ∧ x.es.length ≤ 8 ∧ (namesOf x.kind).1.entries = true) := by
    unfold part3 at i5
    cases he : (namesOf x.kind).1.entries
    · rw [he] at i5; simp at i5; exact .inl i5
    · rw [he] at i5; simp at i5; exact .inr ⟨i5.1, i5.2, rfl⟩
  refine ⟨fun hc => ?_, fun hc => ?_, fun hc => ?_, fun hc => ?_, ?_, fun hc => ?_, ?_, fun hc => ?_, ?_, ?_, ?_, fun hc => ?_, fun hc => ?_, fun hc => ?_, fun hc => ?_, ?_, ?_⟩
  · have hc : (namesOf x.kind).1.conf = true := hc
    rw [hc] at i9; simpa [part3] using i9
  · have hc : (namesOf x.kind).1.conf = false := hc
    rw [hc] at i9
    have : x.v.length + x.l.length = 0 := by simpa [part3] using i9
    exact ⟨List.length_eq_zero_iff.1 (by omega), List.length_eq_zero_iff.1 (by omega)⟩
  · have hc : (namesOf x.kind).1.last = false := hc
    rw [hc] at i8; simpa [part3] using i8
  · have hc : (namesOf x.kind).1.data = false := hc
    rw [hc] at i7; simpa [part3] using i7
  · unfold part3 at i7
    cases he : (namesOf x.kind).1.data
    · rw [he] at i7; simp at i7; simp [i7]
    · rw [he] at i7; simp at i7; omega
  · have hc : (namesOf x.kind).1.off = false := hc
    rw [hc] at i6; simpa [part3] using i6
  · unfold part3 at i6
    cases he : (namesOf x.kind).1.off
    · rw [he] at i6; simp at i6; omega
    · rw [he] at i6; simp at i6; omega
  · have hc : (namesOf x.kind).1.entries = false := hc
    rcases hes with he | ⟨_, _, he⟩
    · exact he
    · rw [hc] at he; cases he
  · rcases hes with he | ⟨_, he, _⟩
    · simp [he]
    · exact he
  · intro e he
    rcases hes with hn | ⟨hm, _, _⟩
    · rw [hn] at he; cases he
    · have := (mEntsP_each _ _ _ (by omega) (by omega) hm).1 e he
      exact ⟨⟨by omega, by omega⟩, ⟨by omega, by omega⟩, by omega⟩
  · intro j e he
    rcases hes with hn | ⟨hm, _, _⟩
    · rw [hn] at he; simp at he
    · have := (mEntsP_each _ _ _ (by omega) (by omega) hm).2 j e he
      rw [this.1]
      unfold wrap64
      omega
  · have hc : (namesOf x.kind).1.ok = false := hc
    rw [hc] at i4; simpa [part3] using i4
  · exact a3.2.2 hc
  · exact a2.2.2 hc
  · exact a1.2.2 hc
  · exact ⟨⟨by omega, by omega⟩, ⟨by omega, by omega⟩, ⟨by omega, by omega⟩, ⟨by omega, by omega⟩⟩
  · exact ⟨⟨by omega, by omega⟩, ⟨by omega, by omega⟩, ⟨by omega, by omega⟩⟩
end Go.Proofs.Ytcejamblndilbaa
