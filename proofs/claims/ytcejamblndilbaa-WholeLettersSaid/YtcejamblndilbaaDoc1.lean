/- The document's reading of a message, plain: it is the code's. -/
import Derived.Test.YtcejamblndilbaaPl3
import Derived.Test.YtcejamblndilbaaDec2
namespace Go.Proofs.Ytcejamblndilbaa
open Go.RowKit

structure Pv where
  kind : Int
  n : Int
  x : Nat
  bs : List UInt8
  on : Bool
def Vl.pv (v : Vl) : Pv := ⟨v.kind, v.n, v.x, v.s.bs, v.on⟩
def getVal (kind : Int) (bs : List UInt8) : Option (Pv × List UInt8) :=
  if kind = 1 then (getNum bs).map fun q => (⟨kind, q.1, 0, [], false⟩, q.2)
  else if kind = 3 then (getBytes bs).map fun q => (⟨kind, 0, 0, q.1, false⟩, q.2)
  else if kind = 4 then (getFlag bs).map fun q => (⟨kind, 0, 0, [], q.1⟩, q.2)
  else none
def takeP : List Int → List UInt8 → List Pv → Option (List Pv × List UInt8)
  | [], bs, acc => some (acc, bs)
  | k :: ks, bs, acc => match getVal k bs with
    | none => none
    | some (p, r) => takeP ks r (acc ++ [p])
def kindsOf (k : Int) : List Int :=
  if k = 1 ∨ k = 3 then [1, 1] else if k = 2 ∨ k = 4 then [4] else if k = 5 then [1, 1, 1, 1] else if k = 6 then [1, 4] else if k = 7 then [1, 1, 1, 3, 4, 3] else [1, 1, 4]
def pv0 : Pv := ⟨0, 0, 0, [], false⟩
/-- entries: as many as are left, with those there are already -/
def docEs : Nat → Pm → List UInt8 → Option (Pm × List UInt8)
  | 0, x, r => some (x, r)
  | j + 1, x, r => match takeP [1, 1, 3] r [] with
    | none => none
    | some (v, r) => if (v.getD 1 pv0).n < 0 ∨ 2 < (v.getD 1 pv0).n then none else
      docEs j { x with es := x.es ++ [⟨wrap64 (wrap64 (x.index + 1) + (x.es.length : Nat)), (v.getD 0 pv0).n, (v.getD 1 pv0).n, (v.getD 2 pv0).bs⟩] } r
def docKind (x : Pm) (v : List Pv) (r : List UInt8) : Option (Pm × List UInt8) :=
  if x.kind = 1 ∨ x.kind = 3 then some ({ x with index := (v.getD 0 pv0).n, logTerm := (v.getD 1 pv0).n }, r)
  else if x.kind = 2 ∨ x.kind = 4 then some ({ x with ok := (v.getD 0 pv0).on }, r)
  else if x.kind = 5 then if (v.getD 3 pv0).n < 0 ∨ 8 < (v.getD 3 pv0).n then none else docEs (v.getD 3 pv0).n.toNat { x with index := (v.getD 0 pv0).n, logTerm := (v.getD 1 pv0).n, commit := (v.getD 2 pv0).n } r
  else if x.kind = 6 then some ({ x with index := (v.getD 0 pv0).n, ok := (v.getD 1 pv0).on }, r)
  else if x.kind = 7 then match loadOf (v.getD 5 pv0).bs with
    | none => none
    | some (vs, ls) => some ({ x with index := (v.getD 0 pv0).n, logTerm := (v.getD 1 pv0).n, off := (v.getD 2 pv0).n, d := (v.getD 3 pv0).bs, last := (v.getD 4 pv0).on, v := vs, l := ls }, r)
  else some ({ x with index := (v.getD 0 pv0).n, off := (v.getD 1 pv0).n, last := (v.getD 2 pv0).on }, r)
def pm0 (k f t m : Int) : Pm := ⟨k, f, t, m, 0, 0, 0, false, [], 0, [], false, [], []⟩
def docRest (x : Pm) (r : List UInt8) : Option (Pm × List UInt8) := match takeP (kindsOf x.kind) r [] with
  | none => none
  | some (v, r) => docKind x v r
def docEnd : Option (Pm × List UInt8) → Option Pm
  | some (x, []) => if rightP x then some x else none
  | _ => none
def headBad (h : List Pv) : Prop := (h.getD 0 pv0).n < 1 ∨ 8 < (h.getD 0 pv0).n ∨ (h.getD 1 pv0).n < 1 ∨ 7 < (h.getD 1 pv0).n ∨ (h.getD 2 pv0).n < 1 ∨ 7 < (h.getD 2 pv0).n
instance (h : List Pv) : Decidable (headBad h) := by unfold headBad; infer_instance
def docP (p : List UInt8) : Option Pm := match takeP [1, 1, 1, 1] p [] with
  | none => none
  | some (h, r) => if headBad h then none else docEnd (docRest (pm0 (h.getD 0 pv0).n (h.getD 1 pv0).n (h.getD 2 pv0).n (h.getD 3 pv0).n) r)

theorem getVal_1 (bs : List UInt8) : getVal 1 bs = (getNum bs).map fun q => (⟨1, q.1, 0, [], false⟩, q.2) := by simp [getVal]
theorem getVal_3 (bs : List UInt8) : getVal 3 bs = (getBytes bs).map fun q => (⟨3, 0, 0, q.1, false⟩, q.2) := by simp [getVal]
theorem getVal_4 (bs : List UInt8) : getVal 4 bs = (getFlag bs).map fun q => (⟨4, 0, 0, [], q.1⟩, q.2) := by simp [getVal]

theorem stOff_none {x : Pm} {r : List UInt8} (h1 : x.p.off = false) (h2 : x.p.data = false) (h3 : x.p.last = false) (h4 : x.p.conf = false) : stOff x r = some (x, r) := by
  simp [stOff, stData, stLast, stConf, h1, h2, h3, h4]
theorem docEs_eq : ∀ (j : Nat) (x : Pm) (r : List UInt8), x.kind = 5 → docEs j x r = stEs j x r
  | 0, x, r, hk => by
    have hp : x.p = (namesOf 5).1 := by rw [Pm.p, hk]
    rw [docEs, stEs, stOff_none] <;> rw [hp] <;> rfl
  | j + 1, x, r, hk => by
    rw [docEs, stEs, takeP, getVal_1]
    rcases getNum r with _ | ⟨a, r1⟩
    · rfl
    simp only [Option.map_some, takeP, getVal_1, getCount, List.nil_append]
    rcases getNum r1 with _ | ⟨b, r2⟩
    · rfl
    simp only [Option.map_some, getVal_3]
    by_cases hb : b < 0 ∨ 2 < b
    · rw [if_pos hb]
      rcases getBytes r2 with _ | ⟨c, r3⟩
      · rfl
      simp only [Option.map_some, List.cons_append, List.nil_append, List.getD_cons_succ, List.getD_cons_zero]
      rw [if_pos hb]
    · rw [if_neg hb]
      show _ = match getBytes r2 with
        | none => none
        | some (b_1, r) => stEs j { x with es := x.es ++ [(⟨wrap64 (wrap64 (x.index + 1) + (x.es.length : Nat)), a, b, b_1⟩ : Pe)] } r
      rcases getBytes r2 with _ | ⟨c, r3⟩
      · rfl
      simp only [Option.map_some, List.cons_append, List.nil_append, List.getD_cons_succ, List.getD_cons_zero]
      rw [if_neg hb]
      exact docEs_eq j _ r3 hk

theorem num3 {x : Pm} (r : List UInt8) (h : x.p.index = true) : stNum 3 x r = match getNum r with
    | none => none
    | some (n, r) => stNum 2 { x with index := n } r := by
  rw [stNum, if_pos (show nameN x.p (2 - 2) = true from h)]; rfl
theorem num3n {x : Pm} (r : List UInt8) (h : x.p.index = false) : stNum 3 x r = stNum 2 x r := by
  rw [stNum, if_neg (show ¬ nameN x.p (2 - 2) = true from fun e => by rw [show nameN x.p (2 - 2) = x.p.index from rfl, h] at e; cases e)]
theorem num2 {x : Pm} (r : List UInt8) (h : x.p.logTerm = true) : stNum 2 x r = match getNum r with
    | none => none
    | some (n, r) => stNum 1 { x with logTerm := n } r := by
  rw [stNum, if_pos (show nameN x.p (2 - 1) = true from h)]; rfl
theorem num2n {x : Pm} (r : List UInt8) (h : x.p.logTerm = false) : stNum 2 x r = stNum 1 x r := by
  rw [stNum, if_neg (show ¬ nameN x.p (2 - 1) = true from fun e => by rw [show nameN x.p (2 - 1) = x.p.logTerm from rfl, h] at e; cases e)]
theorem num1 {x : Pm} (r : List UInt8) (h : x.p.commit = true) : stNum 1 x r = match getNum r with
    | none => none
    | some (n, r) => stOk { x with commit := n } r := by
  rw [stNum, if_pos (show nameN x.p (2 - 0) = true from h)]; rfl
theorem num1n {x : Pm} (r : List UInt8) (h : x.p.commit = false) : stNum 1 x r = stOk x r := by
  rw [stNum, if_neg (show ¬ nameN x.p (2 - 0) = true from fun e => by rw [show nameN x.p (2 - 0) = x.p.commit from rfl, h] at e; cases e)]; rfl
theorem okn {x : Pm} (r : List UInt8) (h : x.p.ok = false) : stOk x r = stEnts x r := by rw [stOk, h]; rfl
theorem entsn {x : Pm} (r : List UInt8) (h : x.p.entries = false) : stEnts x r = stOff x r := by rw [stEnts, h]; rfl

theorem ok1 {x : Pm} (r : List UInt8) (h : x.p.ok = true) : stOk x r = match getFlag r with
    | none => none
    | some (b, r) => stEnts { x with ok := b } r := by rw [stOk, h]; rfl
theorem ents1 {x : Pm} (r : List UInt8) (h : x.p.entries = true) : stEnts x r = match getCount 8 r with
    | none => none
    | some (b, r) => stEs b.toNat x r := by rw [stEnts, h]; rfl
theorem off1 {x : Pm} (r : List UInt8) (h : x.p.off = true) : stOff x r = match getNum r with
    | none => none
    | some (b, r) => stData { x with off := b } r := by rw [stOff, h]; rfl
theorem data1 {x : Pm} (r : List UInt8) (h : x.p.data = true) : stData x r = match getBytes r with
    | none => none
    | some (b, r) => stLast { x with d := b } r := by rw [stData, h]; rfl
theorem last1 {x : Pm} (r : List UInt8) (h : x.p.last = true) : stLast x r = match getFlag r with
    | none => none
    | some (b, r) => stConf { x with last := b } r := by rw [stLast, h]; rfl
theorem conf1 {x : Pm} (r : List UInt8) (h : x.p.conf = true) : stConf x r = match getBytes r with
    | none => none
    | some (b, r) => match loadOf b with
      | none => none
      | some (v, l) => some ({ x with v := v, l := l }, r) := by rw [stConf, h]; rfl
theorem datan {x : Pm} (r : List UInt8) (h : x.p.data = false) : stData x r = stLast x r := by rw [stData, h]; rfl
theorem confn {x : Pm} (r : List UInt8) (h : x.p.conf = false) : stConf x r = some (x, r) := by rw [stConf, h]; rfl
theorem doc_two {x : Pm} (r : List UInt8) (hk : x.kind = 1 ∨ x.kind = 3) (h1 : x.p.index = true) (h2 : x.p.logTerm = true) (h3 : x.p.commit = false) (h4 : x.p.ok = false) (h5 : x.p.entries = false)
    (o1 : x.p.off = false) (o2 : x.p.data = false) (o3 : x.p.last = false) (o4 : x.p.conf = false) : (match takeP [1, 1] r [] with | none => none | some (v, r) => docKind x v r) = stNum 3 x r := by
  rw [num3 _ h1, takeP, getVal_1]
  rcases getNum r with _ | ⟨a, r1⟩
  · rfl
  simp only [Option.map_some, takeP, getVal_1, List.nil_append]
  rw [num2 (x := { x with index := a }) _ h2]
  rcases getNum r1 with _ | ⟨b, r2⟩
  · rfl
  simp only [Option.map_some]
  rw [num1n (x := { x with index := a, logTerm := b }) _ h3, okn (x := { x with index := a, logTerm := b }) _ h4, entsn (x := { x with index := a, logTerm := b }) _ h5, stOff_none (x := { x with index := a, logTerm := b }) o1 o2 o3 o4, docKind, if_pos hk]
  rfl
theorem doc_flag {x : Pm} (r : List UInt8) (hk : x.kind = 2 ∨ x.kind = 4) (h1 : x.p.index = false) (h2 : x.p.logTerm = false) (h3 : x.p.commit = false) (h4 : x.p.ok = true) (h5 : x.p.entries = false)
    (o1 : x.p.off = false) (o2 : x.p.data = false) (o3 : x.p.last = false) (o4 : x.p.conf = false) : (match takeP [4] r [] with | none => none | some (v, r) => docKind x v r) = stNum 3 x r := by
  rw [num3n _ h1, num2n _ h2, num1n _ h3, stOk, if_pos h4, takeP, getVal_4]
  rcases getFlag r with _ | ⟨a, r1⟩
  · rfl
  simp only [Option.map_some, takeP, List.nil_append]
  rw [entsn (x := { x with ok := a }) _ h5, stOff_none (x := { x with ok := a }) o1 o2 o3 o4, docKind, if_neg (by omega), if_pos hk]
  rfl
theorem docRest_eq (k f t m : Int) (r : List UInt8) (hk : 1 ≤ k ∧ k ≤ 8) : docRest (pm0 k f t m) r = stNum 3 (pm0 k f t m) r := by
  have h8 : k = 1 ∨ k = 2 ∨ k = 3 ∨ k = 4 ∨ k = 5 ∨ k = 6 ∨ k = 7 ∨ k = 8 := by omega
  rcases h8 with rfl | rfl | rfl | rfl | rfl | rfl | rfl | rfl
  · show (match takeP [1, 1] r [] with | none => none | some (v, r) => docKind (pm0 1 f t m) v r) = _
    exact doc_two r (.inl rfl) rfl rfl rfl rfl rfl rfl rfl rfl rfl
  · show (match takeP [4] r [] with | none => none | some (v, r) => docKind (pm0 2 f t m) v r) = _
    exact doc_flag r (.inl rfl) rfl rfl rfl rfl rfl rfl rfl rfl rfl
  · show (match takeP [1, 1] r [] with | none => none | some (v, r) => docKind (pm0 3 f t m) v r) = _
    exact doc_two r (.inr rfl) rfl rfl rfl rfl rfl rfl rfl rfl rfl
  · show (match takeP [4] r [] with | none => none | some (v, r) => docKind (pm0 4 f t m) v r) = _
    exact doc_flag r (.inr rfl) rfl rfl rfl rfl rfl rfl rfl rfl rfl
  · show (match takeP [1, 1, 1, 1] r [] with | none => none | some (v, r) => docKind (pm0 5 f t m) v r) = _
    rw [num3 _ rfl, takeP, getVal_1]
    rcases getNum r with _ | ⟨a, r1⟩
    · rfl
    simp only [Option.map_some, takeP, getVal_1, List.nil_append]
    rw [num2 _ rfl]
    rcases getNum r1 with _ | ⟨b, r2⟩
    · rfl
    simp only [Option.map_some]
    rw [num1 _ rfl]
    rcases getNum r2 with _ | ⟨c, r3⟩
    · rfl
    simp only [Option.map_some]
    rw [okn _ rfl]
    rw [ents1 _ rfl, getCount]
    rcases getNum r3 with _ | ⟨d, r4⟩
    · rfl
    simp only [Option.map_some]
    show (if d < 0 ∨ 8 < d then none else docEs d.toNat ⟨5, f, t, m, a, b, c, false, [], 0, [], false, [], []⟩ r4) = _
    by_cases hd : d < 0 ∨ 8 < d
    · rw [if_pos hd, if_pos hd]
    · rw [if_neg hd, if_neg hd]
      exact docEs_eq _ _ _ rfl
  · show (match takeP [1, 4] r [] with | none => none | some (v, r) => docKind (pm0 6 f t m) v r) = _
    rw [num3 _ rfl, takeP, getVal_1]
    rcases getNum r with _ | ⟨a, r1⟩
    · rfl
    simp only [Option.map_some, takeP, getVal_4, List.nil_append]
    rw [num2n _ rfl, num1n _ rfl, ok1 _ rfl]
    rcases getFlag r1 with _ | ⟨b, r2⟩
    · rfl
    simp only [Option.map_some]
    rw [entsn _ rfl, stOff_none rfl rfl rfl rfl]
    rfl
  · show (match takeP [1, 1, 1, 3, 4, 3] r [] with | none => none | some (v, r) => docKind (pm0 7 f t m) v r) = _
    rw [num3 _ rfl, takeP, getVal_1]
    rcases getNum r with _ | ⟨a, r1⟩
    · rfl
    simp only [Option.map_some, takeP, getVal_1, getVal_3, getVal_4, List.nil_append]
    rw [num2 _ rfl]
    rcases getNum r1 with _ | ⟨b, r2⟩
    · rfl
    simp only [Option.map_some]
    rw [num1n _ rfl, okn _ rfl, entsn _ rfl, off1 _ rfl]
    rcases getNum r2 with _ | ⟨c, r3⟩
    · rfl
    simp only [Option.map_some]
    rw [data1 _ rfl]
    rcases getBytes r3 with _ | ⟨d, r4⟩
    · rfl
    simp only [Option.map_some]
    rw [last1 _ rfl]
    rcases getFlag r4 with _ | ⟨e, r5⟩
    · rfl
    simp only [Option.map_some]
    rw [conf1 _ rfl]
    rcases getBytes r5 with _ | ⟨g, r6⟩
    · rfl
    simp only [Option.map_some]
    show (match loadOf g with | none => none | some (vs, ls) => some ((⟨7, f, t, m, a, b, 0, false, [], c, d, e, vs, ls⟩ : Pm), r6)) = _
    rcases loadOf g with _ | ⟨vs, ls⟩ <;> rfl
  · show (match takeP [1, 1, 4] r [] with | none => none | some (v, r) => docKind (pm0 8 f t m) v r) = _
    rw [num3 _ rfl, takeP, getVal_1]
    rcases getNum r with _ | ⟨a, r1⟩
    · rfl
    simp only [Option.map_some, takeP, getVal_1, getVal_4, List.nil_append]
    rw [num2n _ rfl, num1n _ rfl, okn _ rfl, entsn _ rfl, off1 _ rfl]
    rcases getNum r1 with _ | ⟨c, r3⟩
    · rfl
    simp only [Option.map_some]
    rw [datan _ rfl, last1 _ rfl]
    rcases getFlag r3 with _ | ⟨e, r5⟩
    · rfl
    simp only [Option.map_some]
    rw [confn _ rfl]
    rfl

theorem stNum_head {y x : Pm} {r r' : List UInt8} (hy : y.es = []) (h : stNum 3 y r = some (x, r')) : x.kind = y.kind ∧ x.fr = y.fr ∧ x.dst = y.dst := by
  obtain ⟨_, i, t, c, k, es, o, d, b, v, l, rfl⟩ := stNum3_back hy h
  exact ⟨rfl, rfl, rfl⟩
theorem right_head {x : Pm} (h : rightP x = true) : (1 ≤ x.kind ∧ x.kind ≤ 8) ∧ (1 ≤ x.fr ∧ x.fr ≤ 7) ∧ (1 ≤ x.dst ∧ x.dst ≤ 7) := by
  unfold rightP at h
  simp only [Bool.and_eq_true, decide_eq_true_eq] at h
  obtain ⟨⟨hk, h1, h2, h3, h4, _⟩, _⟩ := h
  exact ⟨kind_range hk, ⟨h1, h2⟩, ⟨h3, h4⟩⟩
/-- what is left once a message is read -/
def endP (o : Option (Pm × List UInt8)) : Option Pm := match (match o with | none => none | some (x, r) => if rightP x then some (x, r) else none : Option (Pm × List UInt8)) with
  | some (x, []) => some x
  | _ => none
theorem end_eq (o : Option (Pm × List UInt8)) : docEnd o = endP o := by
  rcases o with _ | ⟨x, r⟩
  · rfl
  · unfold docEnd endP
    cases r <;> simp only <;> cases rightP x <;> rfl
theorem endP_no {o : Option (Pm × List UInt8)} (h : ∀ x r, o = some (x, r) → rightP x = false) : endP o = none := by
  rcases o with _ | ⟨x, r⟩
  · rfl
  · unfold endP
    simp only [h x r rfl]
    rfl
theorem docP_eq (p : List UInt8) : docP p = payP p := by
  have e : payP p = endP (readP p) := rfl
  rw [e]
  rcases h1 : getNum p with _ | ⟨k, r1⟩
  · simp only [docP, readP, takeP, getVal_1, getCount, h1, Option.map_none]; rfl
  by_cases c1 : k < 0 ∨ 8 < k
  · rcases h2 : getNum r1 with _ | ⟨f, r2⟩
    · simp only [docP, readP, takeP, getVal_1, getCount, h1, h2, Option.map_none, Option.map_some, if_pos c1]; rfl
    rcases h3 : getNum r2 with _ | ⟨t, r3⟩
    · simp only [docP, readP, takeP, getVal_1, getCount, h1, h2, h3, Option.map_none, Option.map_some, if_pos c1]; rfl
    rcases h4 : getNum r3 with _ | ⟨m, r4⟩
    · simp only [docP, readP, takeP, getVal_1, getCount, h1, h2, h3, h4, Option.map_none, Option.map_some, if_pos c1]; rfl
    simp only [docP, readP, takeP, getVal_1, getCount, h1, h2, h3, h4, Option.map_some, if_pos c1]
    rw [if_pos (by unfold headBad; show k < 1 ∨ 8 < k ∨ f < 1 ∨ 7 < f ∨ t < 1 ∨ 7 < t; omega)]
    rfl
  rcases h2 : getNum r1 with _ | ⟨f, r2⟩
  · simp only [docP, readP, takeP, getVal_1, getCount, h1, h2, Option.map_none, Option.map_some, if_neg c1]; rfl
  by_cases c2 : f < 0 ∨ 7 < f
  · rcases h3 : getNum r2 with _ | ⟨t, r3⟩
    · simp only [docP, readP, takeP, getVal_1, getCount, h1, h2, h3, Option.map_none, Option.map_some, if_neg c1, if_pos c2]; rfl
    rcases h4 : getNum r3 with _ | ⟨m, r4⟩
    · simp only [docP, readP, takeP, getVal_1, getCount, h1, h2, h3, h4, Option.map_none, Option.map_some, if_neg c1, if_pos c2]; rfl
    simp only [docP, readP, takeP, getVal_1, getCount, h1, h2, h3, h4, Option.map_some, if_neg c1, if_pos c2]
    rw [if_pos (by unfold headBad; show k < 1 ∨ 8 < k ∨ f < 1 ∨ 7 < f ∨ t < 1 ∨ 7 < t; omega)]
    rfl
  rcases h3 : getNum r2 with _ | ⟨t, r3⟩
  · simp only [docP, readP, takeP, getVal_1, getCount, h1, h2, h3, Option.map_none, Option.map_some, if_neg c1, if_neg c2]; rfl
  by_cases c3 : t < 0 ∨ 7 < t
  · rcases h4 : getNum r3 with _ | ⟨m, r4⟩
    · simp only [docP, readP, takeP, getVal_1, getCount, h1, h2, h3, h4, Option.map_none, Option.map_some, if_neg c1, if_neg c2, if_pos c3]; rfl
    simp only [docP, readP, takeP, getVal_1, getCount, h1, h2, h3, h4, Option.map_some, if_neg c1, if_neg c2, if_pos c3]
    rw [if_pos (by unfold headBad; show k < 1 ∨ 8 < k ∨ f < 1 ∨ 7 < f ∨ t < 1 ∨ 7 < t; omega)]
    rfl
  rcases h4 : getNum r3 with _ | ⟨m, r4⟩
  · simp only [docP, readP, takeP, getVal_1, getCount, h1, h2, h3, h4, Option.map_none, Option.map_some, if_neg c1, if_neg c2, if_neg c3]; rfl
  simp only [docP, readP, takeP, getVal_1, getCount, h1, h2, h3, h4, Option.map_some, if_neg c1, if_neg c2, if_neg c3]
  show (if headBad [⟨1, k, 0, [], false⟩, ⟨1, f, 0, [], false⟩, ⟨1, t, 0, [], false⟩, ⟨1, m, 0, [], false⟩] then none else docEnd (docRest (pm0 k f t m) r4)) = endP (stNum 3 (pm0 k f t m) r4)
  have hb : headBad [⟨1, k, 0, [], false⟩, ⟨1, f, 0, [], false⟩, ⟨1, t, 0, [], false⟩, ⟨1, m, 0, [], false⟩] ↔ (k < 1 ∨ 8 < k ∨ f < 1 ∨ 7 < f ∨ t < 1 ∨ 7 < t) := Iff.rfl
  by_cases hg : k < 1 ∨ 8 < k ∨ f < 1 ∨ 7 < f ∨ t < 1 ∨ 7 < t
  · rw [if_pos (hb.2 hg)]
    symm
    refine endP_no fun x r h => ?_
    obtain ⟨e1, e2, e3⟩ := stNum_head (y := pm0 k f t m) rfl h
    cases hr : rightP x with
    | false => rfl
    | true =>
      have := right_head hr
      rw [e1, e2, e3] at this
      simp only [pm0] at this
      omega
  · rw [if_neg (fun h => hg (hb.1 h)), end_eq, docRest_eq _ _ _ _ _ (by omega)]
end Go.Proofs.Ytcejamblndilbaa
