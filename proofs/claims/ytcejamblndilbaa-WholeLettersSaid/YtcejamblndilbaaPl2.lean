/- Messages, plain: a message's bytes, and back. -/
import Derived.Test.YtcejamblndilbaaPl1
namespace Go.Proofs.Ytcejamblndilbaa
open Go.RowKit

def ifB (c : Bool) (b : List UInt8) : List UInt8 := if c then b else []
def lenB (b : List UInt8) : List UInt8 := numBytes (b.length : Nat) ++ b
def flagB (b : Bool) : List UInt8 := [if b then 1 else 0]
def entB (e : Pe) : List UInt8 := numBytes e.tm ++ (numBytes e.kd ++ lenB e.bs)
def ecConf (x : Pm) : List UInt8 := ifB x.p.conf (lenB (cBytes x.v x.l).1)
def ecLast (x : Pm) : List UInt8 := ifB x.p.last (flagB x.last) ++ ecConf x
def ecData (x : Pm) : List UInt8 := ifB x.p.data (lenB x.d) ++ ecLast x
def ecOff (x : Pm) : List UInt8 := ifB x.p.off (numBytes x.off) ++ ecData x
def ecEs (x : Pm) : List UInt8 := x.es.flatMap entB ++ ecOff x
def ecEnts (x : Pm) : List UInt8 := ifB x.p.entries (numBytes (x.es.length : Nat)) ++ ecEs x
def ecOk (x : Pm) : List UInt8 := ifB x.p.ok (flagB x.ok) ++ ecEnts x
def ecNum3 (x : Pm) : List UInt8 := ifB x.p.commit (numBytes x.commit) ++ ecOk x
def ecNum2 (x : Pm) : List UInt8 := ifB x.p.logTerm (numBytes x.logTerm) ++ ecNum3 x
def ecNum (x : Pm) : List UInt8 := ifB x.p.index (numBytes x.index) ++ ecNum2 x
/-- a message's payload -/
def encP (x : Pm) : List UInt8 := numBytes x.kind ++ (numBytes x.fr ++ (numBytes x.dst ++ (numBytes x.term ++ ecNum x)))

theorem bytes_num (n : Int) : (numV n).bytes = numBytes n := rfl
theorem bytes_flag (b : Bool) : (flagV b).bytes = flagB b := rfl
theorem bytes_bytes (s : Sl) (h : s.bs.length = s.len) : (bytesV s).bytes = lenB s.bs := by
  unfold lenB; rw [h]; rfl
theorem ifV_bytes (c : Bool) (v : Vl) : (ifV c v).flatMap Vl.bytes = ifB c v.bytes := by cases c <;> simp [ifV, ifB]
theorem entVs_bytes : ∀ (es : List En), (∀ e ∈ es, e.s.bs.length = e.s.len) → (entVs es).flatMap Vl.bytes = (es.map En.plain).flatMap entB
  | [], _ => rfl
  | e :: r, h => by
    have ih := entVs_bytes r fun x hx => h x (List.mem_cons_of_mem _ hx)
    unfold entVs at ih ⊢
    rw [List.flatMap_cons, List.flatMap_append, ih, List.map_cons, List.flatMap_cons]
    simp only [List.flatMap_cons, List.flatMap_nil, bytes_num, bytes_bytes e.s (h e (List.mem_cons_self ..)), List.append_nil]
    rfl
theorem encM_plain {w : World} {m : Ms} (h : MsOk w m) : encM m = encP m.plain := by
  have h1 : m.es.length = m.en := h.len
  have h2 : m.d.bs.length = m.d.len := h.data.1.1
  have h3 := entVs_bytes m.es fun e he => (h.ents e he).1.1
  unfold encM valsM
  simp only [List.flatMap_append, List.flatMap_cons, List.flatMap_nil, ifV_bytes, bytes_num, bytes_flag, bytes_bytes m.d h2, h3, bytes_bytes (confSl m.c.v.zs m.c.l.zs) rfl, List.append_nil, List.append_assoc]
  unfold encP ecNum ecNum2 ecNum3 ecOk ecEnts ecEs ecOff ecData ecLast ecConf
  have e1 : m.plain.es.length = m.en := by show (m.es.map En.plain).length = _; rw [List.length_map, h1]
  rw [e1]
  rfl

/-! a configuration's bytes -/
theorem confVals_bytes {v l : List Int} (h : confRight v l = true) : (cBytes v l).1 = (confVals v l).flatMap Vl.bytes := by
  unfold cBytes
  rw [if_pos h, putAll_all _ _ (fun x hx => by
    unfold confVals grpV at hx
    simp at hx
    rcases hx with rfl | ⟨z, _, rfl⟩ | rfl | ⟨z, _, rfl⟩ <;> rfl)]
  rfl
theorem grp_bytes (zs : List Int) : (grpV zs).flatMap Vl.bytes = numBytes (zs.length : Nat) ++ zs.flatMap numBytes := by
  unfold grpV
  rw [List.flatMap_cons, bytes_num, List.flatMap_map]
  rfl
theorem getCount_num {most n : Int} (r : List UInt8) (h : 0 ≤ n ∧ n ≤ most) (hm : most ≤ 9223372036854775807) : getCount most (numBytes n ++ r) = some (n, r) := by
  unfold getCount
  rw [getNum_num n r (by omega)]
  simp only
  rw [if_neg (by omega)]
theorem num_getCount {most n : Int} {bs r : List UInt8} (h : getCount most bs = some (n, r)) : bs = numBytes n ++ r ∧ 0 ≤ n ∧ n ≤ most := by
  unfold getCount at h
  split at h
  · cases h
  · rename_i n' r' hn
    split at h
    · cases h
    · injection h with h
      injection h with h1 h2
      subst h1 h2
      exact ⟨(num_getNum hn).1, by omega, by omega⟩
theorem readNs_bytes (r : List UInt8) : ∀ (zs acc : List Int), (∀ z ∈ zs, 0 ≤ z ∧ z ≤ 7) → readNs zs.length (zs.flatMap numBytes ++ r) acc = some (acc ++ zs, r)
  | [], acc, _ => by simp [readNs]
  | z :: zs, acc, h => by
    have h1 := h z (List.mem_cons_self ..)
    rw [List.length_cons, List.flatMap_cons, List.append_assoc, readNs, getCount_num _ h1 (by omega)]
    simp only
    rw [readNs_bytes r zs (acc ++ [z]) fun y hy => h y (List.mem_cons_of_mem _ hy)]
    simp
theorem bytes_readNs : ∀ (k : Nat) (bs r : List UInt8) (acc out : List Int), readNs k bs acc = some (out, r) → ∃ zs, out = acc ++ zs ∧ zs.length = k ∧ bs = zs.flatMap numBytes ++ r
  | 0, bs, r, acc, out, h => by
    rw [readNs] at h
    injection h with h
    injection h with h1 h2
    exact ⟨[], by simp [h1], rfl, by simp [h2]⟩
  | k + 1, bs, r, acc, out, h => by
    rw [readNs] at h
    split at h
    · cases h
    · rename_i n r' hn
      obtain ⟨zs, h1, h2, h3⟩ := bytes_readNs k r' r (acc ++ [n]) out h
      exact ⟨n :: zs, by rw [h1]; simp, by simp [h2], by rw [(num_getCount hn).1, h3]; simp⟩
theorem readGrp_bytes (r : List UInt8) (zs : List Int) (h : ∀ z ∈ zs, 0 ≤ z ∧ z ≤ 7) (hl : zs.length ≤ 7) : readGrp (numBytes (zs.length : Nat) ++ (zs.flatMap numBytes ++ r)) = some (zs, r) := by
  unfold readGrp
  rw [getCount_num _ ⟨by omega, by omega⟩ (by omega)]
  simp only [Int.toNat_natCast]
  rw [readNs_bytes r zs [] h]
  rfl
theorem bytes_readGrp {bs r : List UInt8} {out : List Int} (h : readGrp bs = some (out, r)) : bs = numBytes (out.length : Nat) ++ (out.flatMap numBytes ++ r) := by
  unfold readGrp at h
  split at h
  · cases h
  · rename_i n r' hn
    obtain ⟨h1, h2, h3⟩ := num_getCount hn
    obtain ⟨zs, e1, e2, e3⟩ := bytes_readNs _ _ _ _ _ h
    simp only [List.nil_append] at e1
    subst e1
    have : ((out.length : Nat) : Int) = n := by omega
    rw [h1, e3, this]
theorem loadOf_cBytes {v l : List Int} (h : confRight v l = true) : loadOf (cBytes v l).1 = some (v, l) := by
  obtain ⟨h1, h2, _⟩ := confRight_facts h
  obtain ⟨a1, a2⟩ := rising_len h1
  obtain ⟨b1, b2⟩ := rising_len h2
  rw [confVals_bytes h]
  unfold loadOf readConf readStage confVals
  rw [List.flatMap_append, grp_bytes, grp_bytes, List.append_assoc, readGrp_bytes _ v (fun z hz => by have := a2 z hz; omega) a1]
  simp only
  have e := readGrp_bytes [] l (fun z hz => by have := b2 z hz; omega) b1
  rw [List.append_nil] at e
  rw [e]
  simp only [readFin, h, if_true]
theorem cBytes_loadOf {b : List UInt8} {v l : List Int} (h : loadOf b = some (v, l)) : b = (cBytes v l).1 := by
  have hc := loadOf_right h
  rw [confVals_bytes hc]
  unfold loadOf at h
  split at h
  · rename_i c hr
    injection h with h
    subst h
    unfold readConf readStage at hr
    simp only at hr
    split at hr
    · cases hr
    · rename_i v' r1 hv
      split at hr
      · cases hr
      · rename_i l' r2 hl
        unfold readFin at hr
        split at hr
        · injection hr with hr
          injection hr with hr hr2
          injection hr with hr hr3
          subst hr hr2 hr3
          rw [bytes_readGrp hv, bytes_readGrp hl]
          unfold confVals
          rw [List.flatMap_append, grp_bytes, grp_bytes]
          simp
        · cases hr
  · cases h

/-! a message's bytes are read as it -/
theorem getBytes_lenB (b r : List UInt8) (h : b.length ≤ 4096) : getBytes (lenB b ++ r) = some (b, r) := by
  unfold lenB
  rw [List.append_assoc]
  exact getBytes_bytes b r h
theorem stConf_enc {x : Pm} (r : List UInt8) (h1 : x.p.conf = true → confRight x.v x.l = true) (h2 : x.p.conf = false → x.v = [] ∧ x.l = []) : stConf { x with v := [], l := [] } (ecConf x ++ r) = some (x, r) := by
  unfold stConf ecConf ifB
  have hp : Pm.p { x with v := [], l := [] } = x.p := rfl
  rw [hp]
  cases hc : x.p.conf with
  | false =>
    obtain ⟨e1, e2⟩ := h2 hc
    simp only [Bool.false_eq_true, if_false, List.nil_append]
    cases x
    simp only at e1 e2
    subst e1 e2
    rfl
  | true =>
    have hcr := h1 hc
    simp only [if_true]
    rw [getBytes_lenB _ _ (by have := cBytes_len x.v x.l; omega)]
    simp only
    rw [loadOf_cBytes hcr]
theorem stLast_enc {x : Pm} (r : List UInt8) (h1 : x.p.conf = true → confRight x.v x.l = true) (h2 : x.p.conf = false → x.v = [] ∧ x.l = []) (h3 : x.p.last = false → x.last = false) :
    stLast { x with last := false, v := [], l := [] } (ecLast x ++ r) = some (x, r) := by
  have hs := stConf_enc r h1 h2
  unfold stLast ecLast ifB
  have hp : Pm.p { x with last := false, v := [], l := [] } = x.p := rfl
  rw [hp]
  cases hc : x.p.last with
  | false =>
    simp only [Bool.false_eq_true, if_false, List.nil_append]
    rw [← hs, ← h3 hc]
  | true =>
    simp only [if_true]
    rw [flagB, List.append_assoc, List.singleton_append, getFlag_flag]
    exact hs
theorem stData_enc {x : Pm} (r : List UInt8) (h1 : x.p.conf = true → confRight x.v x.l = true) (h2 : x.p.conf = false → x.v = [] ∧ x.l = []) (h3 : x.p.last = false → x.last = false) (h4 : x.p.data = false → x.d = []) (h5 : x.d.length ≤ 4096) :
    stData { x with d := [], last := false, v := [], l := [] } (ecData x ++ r) = some (x, r) := by
  have hs := stLast_enc r h1 h2 h3
  unfold stData ecData ifB
  have hp : Pm.p { x with d := [], last := false, v := [], l := [] } = x.p := rfl
  rw [hp]
  cases hc : x.p.data with
  | false =>
    simp only [Bool.false_eq_true, if_false, List.nil_append]
    rw [← hs, ← h4 hc]
  | true =>
    simp only [if_true]
    rw [List.append_assoc, getBytes_lenB _ _ h5]
    exact hs
/-- what a message has beyond what its kind names: nothing; what it names is small -/
structure Fits (x : Pm) : Prop where
  c1 : x.p.conf = true → confRight x.v x.l = true
  c2 : x.p.conf = false → x.v = [] ∧ x.l = []
  last : x.p.last = false → x.last = false
  data : x.p.data = false → x.d = []
  dlen : x.d.length ≤ 4096
  off : x.p.off = false → x.off = 0
  offr : -9223372036854775808 ≤ x.off ∧ x.off ≤ 9223372036854775807
  ents : x.p.entries = false → x.es = []
  few : x.es.length ≤ 8
  each : ∀ e ∈ x.es, (-9223372036854775808 ≤ e.tm ∧ e.tm ≤ 9223372036854775807) ∧ (0 ≤ e.kd ∧ e.kd ≤ 2) ∧ e.bs.length ≤ 4096
  idx : ∀ (j : Nat) (e : Pe), x.es[j]? = some e → e.ix = wrap64 (wrap64 (x.index + 1) + (j : Nat))
  ok : x.p.ok = false → x.ok = false
  commit : x.p.commit = false → x.commit = 0
  logTerm : x.p.logTerm = false → x.logTerm = 0
  index : x.p.index = false → x.index = 0
  nums : (-9223372036854775808 ≤ x.commit ∧ x.commit ≤ 9223372036854775807) ∧ (-9223372036854775808 ≤ x.logTerm ∧ x.logTerm ≤ 9223372036854775807) ∧ (-9223372036854775808 ≤ x.index ∧ x.index ≤ 9223372036854775807) ∧ (-9223372036854775808 ≤ x.term ∧ x.term ≤ 9223372036854775807)
  head : (0 ≤ x.kind ∧ x.kind ≤ 8) ∧ (0 ≤ x.fr ∧ x.fr ≤ 7) ∧ (0 ≤ x.dst ∧ x.dst ≤ 7)
theorem stOff_enc {x : Pm} (r : List UInt8) (h : Fits x) : stOff { x with off := 0, d := [], last := false, v := [], l := [] } (ecOff x ++ r) = some (x, r) := by
  have hs := stData_enc r h.c1 h.c2 h.last h.data h.dlen
  unfold stOff ecOff ifB
  have hp : Pm.p { x with off := 0, d := [], last := false, v := [], l := [] } = x.p := rfl
  rw [hp]
  cases hc : x.p.off with
  | false =>
    simp only [Bool.false_eq_true, if_false, List.nil_append]
    rw [← hs, ← h.off hc]
  | true =>
    simp only [if_true]
    rw [List.append_assoc, getNum_num _ _ h.offr]
    exact hs
theorem stEs_enc {x : Pm} (r : List UInt8) (h : Fits x) : ∀ (es2 es1 : List Pe), x.es = es1 ++ es2 →
    stEs es2.length { x with es := es1, off := 0, d := [], last := false, v := [], l := [] } (es2.flatMap entB ++ (ecOff x ++ r)) = some (x, r)
  | [], es1, he => by
    rw [List.append_nil] at he
    rw [List.length_nil, List.flatMap_nil, List.nil_append, stEs, ← he]
    exact stOff_enc r h
  | e :: es2, es1, he => by
    have hm : e ∈ x.es := by rw [he]; simp
    obtain ⟨h1, h2, h3⟩ := h.each e hm
    have hix := h.idx es1.length e (by rw [he]; simp)
    rw [List.length_cons, List.flatMap_cons, stEs]
    have e1 : entB e ++ es2.flatMap entB ++ (ecOff x ++ r) = numBytes e.tm ++ (numBytes e.kd ++ (lenB e.bs ++ (es2.flatMap entB ++ (ecOff x ++ r)))) := by simp [entB]
    rw [e1, getNum_num _ _ h1]
    simp only
    rw [getCount_num _ h2 (by omega)]
    simp only
    rw [getBytes_lenB _ _ h3]
    simp only
    rw [← hix]
    exact stEs_enc r h es2 (es1 ++ [e]) (by rw [he]; simp)
theorem stEnts_enc {x : Pm} (r : List UInt8) (h : Fits x) : stEnts { x with es := [], off := 0, d := [], last := false, v := [], l := [] } (ecEnts x ++ r) = some (x, r) := by
  unfold stEnts ecEnts ecEs ifB
  have hp : Pm.p { x with es := [], off := 0, d := [], last := false, v := [], l := [] } = x.p := rfl
  rw [hp]
  cases hc : x.p.entries with
  | false =>
    have he := h.ents hc
    have hs := stOff_enc r h
    simp only [Bool.false_eq_true, if_false, List.nil_append]
    rw [← hs, he]
    rfl
  | true =>
    simp only [if_true]
    have hf := h.few
    rw [List.append_assoc, List.append_assoc, getCount_num _ ⟨by omega, by omega⟩ (by omega)]
    exact stEs_enc r h x.es [] rfl
theorem stOk_enc {x : Pm} (r : List UInt8) (h : Fits x) : stOk { x with ok := false, es := [], off := 0, d := [], last := false, v := [], l := [] } (ecOk x ++ r) = some (x, r) := by
  have hs := stEnts_enc r h
  unfold stOk ecOk ifB
  have hp : Pm.p { x with ok := false, es := [], off := 0, d := [], last := false, v := [], l := [] } = x.p := rfl
  rw [hp]
  cases hc : x.p.ok with
  | false =>
    simp only [Bool.false_eq_true, if_false, List.nil_append]
    rw [← hs, ← h.ok hc]
  | true =>
    simp only [if_true]
    rw [flagB, List.append_assoc, List.singleton_append, getFlag_flag]
    exact hs
theorem stNum1_enc {x : Pm} (r : List UInt8) (h : Fits x) : stNum 1 { x with commit := 0, ok := false, es := [], off := 0, d := [], last := false, v := [], l := [] } (ecNum3 x ++ r) = some (x, r) := by
  have hs := stOk_enc r h
  unfold stNum ecNum3 ifB
  have hp : nameN (Pm.p { x with commit := 0, ok := false, es := [], off := 0, d := [], last := false, v := [], l := [] }) (2 - 0) = x.p.commit := rfl
  rw [hp]
  cases hc : x.p.commit with
  | false =>
    simp only [Bool.false_eq_true, if_false, List.nil_append]
    rw [← hs, ← h.commit hc]
    rfl
  | true =>
    simp only [if_true]
    rw [List.append_assoc, getNum_num _ _ h.nums.1]
    exact hs
theorem stNum2_enc {x : Pm} (r : List UInt8) (h : Fits x) : stNum 2 { x with logTerm := 0, commit := 0, ok := false, es := [], off := 0, d := [], last := false, v := [], l := [] } (ecNum2 x ++ r) = some (x, r) := by
  have hs := stNum1_enc r h
  unfold stNum ecNum2 ifB
  have hp : nameN (Pm.p { x with logTerm := 0, commit := 0, ok := false, es := [], off := 0, d := [], last := false, v := [], l := [] }) (2 - 1) = x.p.logTerm := rfl
  rw [hp]
  cases hc : x.p.logTerm with
  | false =>
    simp only [Bool.false_eq_true, if_false, List.nil_append]
    rw [← hs, ← h.logTerm hc]
  | true =>
    simp only [if_true]
    rw [List.append_assoc, getNum_num _ _ h.nums.2.1]
    exact hs
theorem stNum3_enc {x : Pm} (r : List UInt8) (h : Fits x) : stNum 3 { x with index := 0, logTerm := 0, commit := 0, ok := false, es := [], off := 0, d := [], last := false, v := [], l := [] } (ecNum x ++ r) = some (x, r) := by
  have hs := stNum2_enc r h
  unfold stNum ecNum ifB
  have hp : nameN (Pm.p { x with index := 0, logTerm := 0, commit := 0, ok := false, es := [], off := 0, d := [], last := false, v := [], l := [] }) (2 - 2) = x.p.index := rfl
  rw [hp]
  cases hc : x.p.index with
  | false =>
    simp only [Bool.false_eq_true, if_false, List.nil_append]
    rw [← hs, ← h.index hc]
  | true =>
    simp only [if_true]
    rw [List.append_assoc, getNum_num _ _ h.nums.2.2.1]
    exact hs
theorem readP_enc {x : Pm} (r : List UInt8) (h : Fits x) : readP (encP x ++ r) = some (x, r) := by
  unfold readP encP
  simp only [List.append_assoc]
  rw [getCount_num _ h.head.1 (by omega)]
  simp only
  rw [getCount_num _ h.head.2.1 (by omega)]
  simp only
  rw [getCount_num _ h.head.2.2 (by omega)]
  simp only
  rw [getNum_num _ _ h.nums.2.2.2]
  exact stNum3_enc r h
end Go.Proofs.Ytcejamblndilbaa
